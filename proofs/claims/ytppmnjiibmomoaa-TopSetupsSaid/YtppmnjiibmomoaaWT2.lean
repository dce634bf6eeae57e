/- Each Go function does what its model says; written by a program out of the translation. -/
import Derived.Test.YtppmnjiibmomoaaWT1
import Derived.Test.YtppmnjiibmomoaaSeMT
set_option linter.unusedVariables false
set_option linter.unusedSimpArgs false
set_option linter.unusedSectionVars false
namespace Go.Proofs.Ytppmnjiibmomoaa
open Go Go.VI Go.SM Go.Proofs
set_option maxRecDepth 100000
set_option maxHeartbeats 4000000
theorem W.setup_Best_1'_body_ok (self : (List Int) → Int → (List Int) → (List (List (List Int))) → Int → Option (Int × (List Int))) (hself : ∀ {order : (List Int)} {h0_0 : Int} {h1_0 : (List Int)} {h3_0 : (List (List (List Int)))} {h4_0 : Int} {r : Int × (List Int)}, self order h0_0 h1_0 h3_0 h4_0 = some r → PC G.P 63 [(.sl (List.map cI order)), (.ptr 1000003 0), (.ptr 1000004 0), (.ptr 1000000 0), (.ptr 1000001 0), (.ptr 1000002 0)] [(1000000, .box [(vI h0_0)]), (1000001, .box [(.sl (List.map cI h1_0))]), (1000002, .box [(.fn 63 [(.ptr 1000003 0), (.ptr 1000004 0), (.ptr 1000000 0), (.ptr 1000001 0), (.ptr 1000002 0)])]), (1000003, .box [(.sl (List.map (cS (cS cI)) h3_0))]), (1000004, .box [(vI h4_0)])] (.tup []) [(1000000, .box [(vI r.1)]), (1000001, .box [(.sl (List.map cI r.2))]), (1000002, .box [(.fn 63 [(.ptr 1000003 0), (.ptr 1000004 0), (.ptr 1000000 0), (.ptr 1000001 0), (.ptr 1000002 0)])]), (1000003, .box [(.sl (List.map (cS (cS cI)) h3_0))]), (1000004, .box [(vI h4_0)])]) {order : (List Int)} {h0_0 : Int} {h1_0 : (List Int)} {h3_0 : (List (List (List Int)))} {h4_0 : Int} {r : Int × (List Int)} (h : setup_Best_1'_body self order h0_0 h1_0 h3_0 h4_0 = some r) : PC G.P 63 [(.sl (List.map cI order)), (.ptr 1000003 0), (.ptr 1000004 0), (.ptr 1000000 0), (.ptr 1000001 0), (.ptr 1000002 0)] [(1000000, .box [(vI h0_0)]), (1000001, .box [(.sl (List.map cI h1_0))]), (1000002, .box [(.fn 63 [(.ptr 1000003 0), (.ptr 1000004 0), (.ptr 1000000 0), (.ptr 1000001 0), (.ptr 1000002 0)])]), (1000003, .box [(.sl (List.map (cS (cS cI)) h3_0))]), (1000004, .box [(vI h4_0)])] (.tup []) [(1000000, .box [(vI r.1)]), (1000001, .box [(.sl (List.map cI r.2))]), (1000002, .box [(.fn 63 [(.ptr 1000003 0), (.ptr 1000004 0), (.ptr 1000000 0), (.ptr 1000001 0), (.ptr 1000002 0)])]), (1000003, .box [(.sl (List.map (cS (cS cI)) h3_0))]), (1000004, .box [(vI h4_0)])] := by
  refine pc_of G (fn := Try.f63) Try.func63 (by kernel_rfl) (by kernel_rfl) (by kernel_rfl) (by kernel_rfl) (by kernel_rfl) ?_
  refine sem_set ⟨[(0, (.sl (List.map cI order))), (1, (.ptr 1000003 0)), (2, (.ptr 1000004 0)), (3, (.ptr 1000000 0)), (4, (.ptr 1000001 0)), (5, (.ptr 1000002 0))], [(1000000, .box [(vI h0_0)]), (1000001, .box [(.sl (List.map cI h1_0))]), (1000002, .box [(.fn 63 [(.ptr 1000003 0), (.ptr 1000004 0), (.ptr 1000000 0), (.ptr 1000001 0), (.ptr 1000002 0)])]), (1000003, .box [(.sl (List.map (cS (cS cI)) h3_0))]), (1000004, .box [(vI h4_0)])]⟩ (by kernel_rfl) ?_
  refine sem_seq (by kernel_rfl) ?_
  refine sem_seq (by kernel_rfl) ?_
  refine sem_region (by kernel_rfl) ?_
  refine evs_run 1 (by kernel_rfl) ?_
  refine evs_op (st_len (c := cI) (l := order) (x := (.sl (List.map cI order))) (by kernel_rfl) (by kernel_rfl)) ?_
  refine evs_run 1 (by kernel_rfl) ?_
  refine evs_op (st_len (c := (cS (cS cI))) (l := h3_0) (x := (.sl (List.map (cS (cS cI)) h3_0))) (by kernel_rfl) (by kernel_rfl)) ?_
  refine evs_run 1 (by kernel_rfl) ?_
  refine evs_endS (by kernel_rfl) (fun τ hτ => ?_)
  refine th_normalS hτ ⟨[(0, (.sl (List.map cI order))), (1, (.ptr 1000003 0)), (2, (.ptr 1000004 0)), (3, (.ptr 1000000 0)), (4, (.ptr 1000001 0)), (5, (.ptr 1000002 0)), (13, (vB ((order.length : Int) == (h3_0.length : Int))))], [(1000000, .box [(vI h0_0)]), (1000001, .box [(.sl (List.map cI h1_0))]), (1000002, .box [(.fn 63 [(.ptr 1000003 0), (.ptr 1000004 0), (.ptr 1000000 0), (.ptr 1000001 0), (.ptr 1000002 0)])]), (1000003, .box [(.sl (List.map (cS (cS cI)) h3_0))]), (1000004, .box [(vI h4_0)])]⟩ (here (by kernel_rfl)) ?_
  refine sem_cond ((order.length : Int) == (h3_0.length : Int)) (by kernel_rfl) (by kernel_rfl) (fun hb => ?_) (fun hb => ?_)
  · replace h := iteT hb h
    refine sem_seqJ (fun (j23 : Int × (List Int)) => ⟨[], [(1000000, .box [(vI j23.1)]), (1000001, .box [(.sl (List.map cI j23.2))]), (1000002, .box [(.fn 63 [(.ptr 1000003 0), (.ptr 1000004 0), (.ptr 1000000 0), (.ptr 1000001 0), (.ptr 1000002 0)])]), (1000003, .box [(.sl (List.map (cS (cS cI)) h3_0))]), (1000004, .box [(vI h4_0)])]⟩) (setup_Best_1'_k1) r (by kernel_rfl) (fun j23 h => ?_) ?_
    · refine sem_retS (by kernel_rfl) (fun τ hτ => ?_)
      refine th_ret ?_
      obtain rfl := Option.some.inj h
      exact rk_ret hτ [] (here (by kernel_rfl)) (by kernel_rfl)
    refine sem_seq (by kernel_rfl) ?_
    refine sem_draw [(2, [700100])] [(2, [700100])] [] [(3, [700100])] [(0, [700100]), (1, [700100]), (3, [700100])] 4 (by kernel_rfl) (by kernel_rfl) [700100] (by kernel_rfl) (by kernel_rfl) ?_
    refine evd_run 2 (by kernel_rfl) ?_
    obtain ⟨r28, hr28, h⟩ := bindS h
    refine evd_callS [(0, 700100)] [] (by kernel_rfl) (by kernel_rfl) (W.setup_join_ok hr28) (by kernel_rfl) (.inl rfl) (by kernel_rfl) (by kernel_rfl) ?_
    refine evd_run 1 (by kernel_rfl) ?_
    refine evd_end (by kernel_rfl) ?_
    obtain ⟨r29, hr29, h⟩ := bindS h
    refine evo_callP [700100] (by kernel_rfl) (W.setup_fewest_ok hr29) (by kernel_rfl) (.inr rfl) (by kernel_rfl) ?_
    refine evo_run 1 (by kernel_rfl) ?_
    refine evo_endS (by kernel_rfl) (fun τ hτ => ?_)
    refine th_normalS hτ ⟨[(0, (.sl (List.map cI order))), (3, (.ptr 1000000 0)), (4, (.ptr 1000001 0)), (7, (vI r29))], [(1000000, .box [(vI h0_0)]), (1000001, .box [(.sl (List.map cI h1_0))]), (1000002, .box [(.fn 63 [(.ptr 1000003 0), (.ptr 1000004 0), (.ptr 1000000 0), (.ptr 1000001 0), (.ptr 1000002 0)])]), (1000003, .box [(.sl (List.map (cS (cS cI)) h3_0))]), (1000004, .box [(vI h4_0)])]⟩ (here (by kernel_rfl)) ?_
    refine sem_seq (by kernel_rfl) ?_
    obtain ⟨j30, hj30, h⟩ := bindS h
    refine sem_regionC ⟨[(0, (.sl (List.map cI order))), (3, (.ptr 1000000 0)), (4, (.ptr 1000001 0)), (7, (vI r29)), (25, (vB j30))], [(1000000, .box [(vI h0_0)]), (1000001, .box [(.sl (List.map cI h1_0))]), (1000002, .box [(.fn 63 [(.ptr 1000003 0), (.ptr 1000004 0), (.ptr 1000000 0), (.ptr 1000001 0), (.ptr 1000002 0)])]), (1000003, .box [(.sl (List.map (cS (cS cI)) h3_0))]), (1000004, .box [(vI h4_0)])]⟩ (by kernel_rfl) ?_ (fun τ hτ => ?_)
    · replace h := hj30
      refine evs_run 3 (by kernel_rfl) ?_
      refine evs_split (decide (h0_0 < 0)) (fun b0 => ⟨[(0, (.sl (List.map cI order))), (3, (.ptr 1000000 0)), (4, (.ptr 1000001 0)), (7, (vI r29)), (21, (vB b0))], [(1000000, .box [(vI h0_0)]), (1000001, .box [(.sl (List.map cI h1_0))]), (1000002, .box [(.fn 63 [(.ptr 1000003 0), (.ptr 1000004 0), (.ptr 1000000 0), (.ptr 1000001 0), (.ptr 1000002 0)])]), (1000003, .box [(.sl (List.map (cS (cS cI)) h3_0))]), (1000004, .box [(vI h4_0)])]⟩) (by kernel_rfl) (fun hb => ?_) (fun hb => ?_)
      · replace h := iteT hb h
        refine evs_run 4 (by kernel_rfl) ?_
        refine evs_endS (by kernel_rfl) (fun τ hτ => ?_)
        obtain rfl := Option.some.inj h
        exact leafC hτ (here (by kernel_rfl))
      · replace h := iteF hb h
        refine evs_run 4 (by kernel_rfl) ?_
        refine evs_endS (by kernel_rfl) (fun τ hτ => ?_)
        obtain rfl := Option.some.inj h
        exact leafC hτ (here (by kernel_rfl))
    refine th_normalS hτ ⟨[(0, (.sl (List.map cI order))), (3, (.ptr 1000000 0)), (4, (.ptr 1000001 0)), (7, (vI r29)), (25, (vB j30))], [(1000000, .box [(vI h0_0)]), (1000001, .box [(.sl (List.map cI h1_0))]), (1000002, .box [(.fn 63 [(.ptr 1000003 0), (.ptr 1000004 0), (.ptr 1000000 0), (.ptr 1000001 0), (.ptr 1000002 0)])]), (1000003, .box [(.sl (List.map (cS (cS cI)) h3_0))]), (1000004, .box [(vI h4_0)])]⟩ (here (by kernel_rfl)) ?_
    refine sem_cond j30 (by kernel_rfl) (by kernel_rfl) (fun hb => ?_) (fun hb => ?_)
    · replace h := iteT hb h
      refine sem_region (by kernel_rfl) ?_
      refine evs_run 4 (by kernel_rfl) ?_
      refine evs_endS (by kernel_rfl) (fun τ hτ => ?_)
      exact jk_normal (r29, order) h hτ (here (by kernel_rfl))
    · replace h := iteF hb h
      refine sem_skipS (by kernel_rfl) (fun τ hτ => ?_)
      exact jk_normal (h0_0, h1_0) h hτ (here (by kernel_rfl))
  · replace h := iteF hb h
    refine sem_skipS (by kernel_rfl) (fun τ hτ => ?_)
    refine th_normalS hτ ⟨[(0, (.sl (List.map cI order))), (1, (.ptr 1000003 0)), (5, (.ptr 1000002 0))], [(1000000, .box [(vI h0_0)]), (1000001, .box [(.sl (List.map cI h1_0))]), (1000002, .box [(.fn 63 [(.ptr 1000003 0), (.ptr 1000004 0), (.ptr 1000000 0), (.ptr 1000001 0), (.ptr 1000002 0)])]), (1000003, .box [(.sl (List.map (cS (cS cI)) h3_0))]), (1000004, .box [(vI h4_0)])]⟩ (here (by kernel_rfl)) ?_
    refine sem_seq (by kernel_rfl) ?_
    refine sem_region (by kernel_rfl) ?_
    refine evs_run 1 (by kernel_rfl) ?_
    refine evs_op (st_len (c := (cS (cS cI))) (l := h3_0) (x := (.sl (List.map (cS (cS cI)) h3_0))) (by kernel_rfl) (by kernel_rfl)) ?_
    refine evs_run 1 (by kernel_rfl) ?_
    refine evs_endS (by kernel_rfl) (fun τ hτ => ?_)
    refine th_normalS hτ ⟨[(0, (.sl (List.map cI order))), (5, (.ptr 1000002 0)), (29, (vI (h3_0.length : Int))), (30, (vI 0))], [(1000000, .box [(vI h0_0)]), (1000001, .box [(.sl (List.map cI h1_0))]), (1000002, .box [(.fn 63 [(.ptr 1000003 0), (.ptr 1000004 0), (.ptr 1000000 0), (.ptr 1000001 0), (.ptr 1000002 0)])]), (1000003, .box [(.sl (List.map (cS (cS cI)) h3_0))]), (1000004, .box [(vI h4_0)])]⟩ (here (by kernel_rfl)) ?_
    refine sem_block (by kernel_rfl) ?_
    obtain ⟨x102, hx102, h⟩ := bindS h
    refine sem_loopS (fun (s55 : Int × Int × (List Int)) => ⟨[(0, (.sl (List.map cI order))), (5, (.ptr 1000002 0)), (29, (vI (h3_0.length : Int))), (30, (vI s55.1))], [(1000000, .box [(vI s55.2.1)]), (1000001, .box [(.sl (List.map cI s55.2.2))]), (1000002, .box [(.fn 63 [(.ptr 1000003 0), (.ptr 1000004 0), (.ptr 1000000 0), (.ptr 1000001 0), (.ptr 1000002 0)])]), (1000003, .box [(.sl (List.map (cS (cS cI)) h3_0))]), (1000004, .box [(vI h4_0)])]⟩) (fun (x102 : Int × (List Int)) => (.exit 0, ⟨[], [(1000000, .box [(vI x102.1)]), (1000001, .box [(.sl (List.map cI x102.2))]), (1000002, .box [(.fn 63 [(.ptr 1000003 0), (.ptr 1000004 0), (.ptr 1000000 0), (.ptr 1000001 0), (.ptr 1000002 0)])]), (1000003, .box [(.sl (List.map (cS (cS cI)) h3_0))]), (1000004, .box [(vI h4_0)])]⟩)) (setup_Best_1'_l3 self order h3_0 h4_0) (0, h0_0, h1_0) x102 (by kernel_rfl) (here (by kernel_rfl)) hx102 ?_ ?_ ?_
    · intro s55 r h
      refine sem_seq (by kernel_rfl) ?_
      refine sem_region (by kernel_rfl) ?_
      refine evs_run 1 (by kernel_rfl) ?_
      refine evs_endS (by kernel_rfl) (fun τ hτ => ?_)
      refine th_normalS hτ ⟨[(0, (.sl (List.map cI order))), (5, (.ptr 1000002 0)), (29, (vI (h3_0.length : Int))), (30, (vI s55.1)), (31, (vB (decide (s55.1 < (h3_0.length : Int)))))], [(1000000, .box [(vI s55.2.1)]), (1000001, .box [(.sl (List.map cI s55.2.2))]), (1000002, .box [(.fn 63 [(.ptr 1000003 0), (.ptr 1000004 0), (.ptr 1000000 0), (.ptr 1000001 0), (.ptr 1000002 0)])]), (1000003, .box [(.sl (List.map (cS (cS cI)) h3_0))]), (1000004, .box [(vI h4_0)])]⟩ (here (by kernel_rfl)) ?_
      refine sem_seq (by kernel_rfl) ?_
      refine sem_cond (decide (s55.1 < (h3_0.length : Int))) (by kernel_rfl) (by kernel_rfl) (fun hb => ?_) (fun hb => ?_)
      · replace h := iteT hb h
        refine sem_skipS (by kernel_rfl) (fun τ hτ => ?_)
        refine th_normalS hτ ⟨[(0, (.sl (List.map cI order))), (5, (.ptr 1000002 0)), (29, (vI (h3_0.length : Int))), (30, (vI s55.1))], [(1000000, .box [(vI s55.2.1)]), (1000001, .box [(.sl (List.map cI s55.2.2))]), (1000002, .box [(.fn 63 [(.ptr 1000003 0), (.ptr 1000004 0), (.ptr 1000000 0), (.ptr 1000001 0), (.ptr 1000002 0)])]), (1000003, .box [(.sl (List.map (cS (cS cI)) h3_0))]), (1000004, .box [(vI h4_0)])]⟩ (here (by kernel_rfl)) ?_
        refine sem_seqJ (fun (j90 : Int × (List Int)) => ⟨[(0, (.sl (List.map cI order))), (5, (.ptr 1000002 0)), (29, (vI (h3_0.length : Int))), (30, (vI s55.1))], [(1000000, .box [(vI j90.1)]), (1000001, .box [(.sl (List.map cI j90.2))]), (1000002, .box [(.fn 63 [(.ptr 1000003 0), (.ptr 1000004 0), (.ptr 1000000 0), (.ptr 1000001 0), (.ptr 1000002 0)])]), (1000003, .box [(.sl (List.map (cS (cS cI)) h3_0))]), (1000004, .box [(vI h4_0)])]⟩) (setup_Best_1'_k2 s55) r (by kernel_rfl) (fun j90 h => ?_) ?_
        · refine sem_region (by kernel_rfl) ?_
          refine evs_run 2 (by kernel_rfl) ?_
          refine evs_endS (by kernel_rfl) (fun τ hτ => ?_)
          obtain rfl := Option.some.inj h
          exact lk_nextS hτ (here (by kernel_rfl))
        refine sem_block (by kernel_rfl) ?_
        refine sem_seq (by kernel_rfl) ?_
        refine sem_region (by kernel_rfl) ?_
        refine evs_run 2 (by kernel_rfl) ?_
        refine evs_endS (by kernel_rfl) (fun τ hτ => ?_)
        refine th_normalS hτ ⟨[(0, (.sl (List.map cI order))), (5, (.ptr 1000002 0)), (8, (vI s55.1)), (29, (vI (h3_0.length : Int))), (30, (vI s55.1))], [(1000000, .box [(vI s55.2.1)]), (1000001, .box [(.sl (List.map cI s55.2.2))]), (1000002, .box [(.fn 63 [(.ptr 1000003 0), (.ptr 1000004 0), (.ptr 1000000 0), (.ptr 1000001 0), (.ptr 1000002 0)])]), (1000003, .box [(.sl (List.map (cS (cS cI)) h3_0))]), (1000004, .box [(vI h4_0)])]⟩ (here (by kernel_rfl)) ?_
        refine sem_seq (by kernel_rfl) ?_
        refine sem_region (by kernel_rfl) ?_
        refine evs_run 2 (by kernel_rfl) ?_
        obtain ⟨r92, hr92, h⟩ := bindS h
        refine evs_callP [] (by kernel_rfl) (W.slices_Contains_Lint_int_ok hr92) (by kernel_rfl) (.inl rfl) (by kernel_rfl) ?_
        refine evs_run 1 (by kernel_rfl) ?_
        refine evs_endS (by kernel_rfl) (fun τ hτ => ?_)
        refine th_normalS hτ ⟨[(0, (.sl (List.map cI order))), (5, (.ptr 1000002 0)), (8, (vI s55.1)), (29, (vI (h3_0.length : Int))), (30, (vI s55.1)), (36, (vB (!r92)))], [(1000000, .box [(vI s55.2.1)]), (1000001, .box [(.sl (List.map cI s55.2.2))]), (1000002, .box [(.fn 63 [(.ptr 1000003 0), (.ptr 1000004 0), (.ptr 1000000 0), (.ptr 1000001 0), (.ptr 1000002 0)])]), (1000003, .box [(.sl (List.map (cS (cS cI)) h3_0))]), (1000004, .box [(vI h4_0)])]⟩ (here (by kernel_rfl)) ?_
        refine sem_cond (!r92) (by kernel_rfl) (by kernel_rfl) (fun hb => ?_) (fun hb => ?_)
        · replace h := iteT hb h
          refine sem_draw [(2, [700100]), (5, [700100, 600005])] [(2, [700100]), (5, [600005])] [] [(0, [700100, 600005]), (3, [700100]), (4, [700100])] [(0, [700100, 600005]), (1, [700100, 600005]), (2, [600005]), (3, [700100, 600005]), (4, [700100, 600005])] 6 (by kernel_rfl) (by kernel_rfl) [700100, 600005] (by kernel_rfl) (by kernel_rfl) ?_
          refine evd_run 2 (by kernel_rfl) ?_
          obtain ⟨r99, hr99, h⟩ := bindS h
          refine evd_callS [(0, 700100)] [] (by kernel_rfl) (by kernel_rfl) (W.slices_Clone_Lint_int_ok hr99) (by kernel_rfl) (.inl rfl) (by kernel_rfl) (by kernel_rfl) ?_
          refine evd_run 2 (by kernel_rfl) ?_
          obtain ⟨l100, hl100, h⟩ := bindS h
          refine evd_app (c := cI) (l := r99) (l2 := [s55.1]) (x := (.sl (List.map cI [s55.1]))) (g := 700100) (g2 := 600005) (e := 3) (sz := 1) (d := 42) (by kernel_rfl) (by kernel_rfl) (by kernel_rfl) (by kernel_rfl) (by kernel_rfl) (fun _ => rfl) hl100 (by kernel_rfl) (by kernel_rfl) (by kernel_rfl) (by kernel_rfl) (by kernel_rfl) ?_
          refine evd_end (by kernel_rfl) ?_
          refine evo_prep [.frz 600005] (by kernel_rfl) ?_
          obtain ⟨r101, hr101, h⟩ := bindS h
          refine evo_callS [(1000000, 1000000), (1000001, 1000001), (1000002, 1000002), (1000003, 1000003), (1000004, 1000004)] [] [] (by kernel_rfl) (hself hr101) (by kernel_rfl) (by kernel_rfl) (.inl rfl) ?_
          refine evo_endS (by kernel_rfl) (fun τ hτ => ?_)
          refine bl_normal ?_
          exact jk_normal (r101.1, r101.2) h hτ (here (by kernel_rfl))
        · replace h := iteF hb h
          refine sem_skipS (by kernel_rfl) (fun τ hτ => ?_)
          refine bl_normal ?_
          exact jk_normal (s55.2.1, s55.2.2) h hτ (here (by kernel_rfl))
      · replace h := iteF hb h
        refine sem_exitS 0 (by kernel_rfl) rfl (fun τ hτ => ?_)
        refine th_exit ?_
        obtain rfl := Option.some.inj h
        exact lk_outS hτ rfl (here (by kernel_rfl))
    · intro x
      rfl
    · intro τ hτ
      refine bl_hit (by kernel_rfl) ?_
      obtain rfl := Option.some.inj h
      exact rk_normal hτ [] (here (by kernel_rfl)) (by kernel_rfl)
theorem W.setup_Best_1'_n_ok : ∀ (n : Nat) {order : (List Int)} {h0_0 : Int} {h1_0 : (List Int)} {h3_0 : (List (List (List Int)))} {h4_0 : Int} {r : Int × (List Int)}, setup_Best_1'_n n order h0_0 h1_0 h3_0 h4_0 = some r → PC G.P 63 [(.sl (List.map cI order)), (.ptr 1000003 0), (.ptr 1000004 0), (.ptr 1000000 0), (.ptr 1000001 0), (.ptr 1000002 0)] [(1000000, .box [(vI h0_0)]), (1000001, .box [(.sl (List.map cI h1_0))]), (1000002, .box [(.fn 63 [(.ptr 1000003 0), (.ptr 1000004 0), (.ptr 1000000 0), (.ptr 1000001 0), (.ptr 1000002 0)])]), (1000003, .box [(.sl (List.map (cS (cS cI)) h3_0))]), (1000004, .box [(vI h4_0)])] (.tup []) [(1000000, .box [(vI r.1)]), (1000001, .box [(.sl (List.map cI r.2))]), (1000002, .box [(.fn 63 [(.ptr 1000003 0), (.ptr 1000004 0), (.ptr 1000000 0), (.ptr 1000001 0), (.ptr 1000002 0)])]), (1000003, .box [(.sl (List.map (cS (cS cI)) h3_0))]), (1000004, .box [(vI h4_0)])]
  | 0, _, _, _, _, _, _, h => by simp [setup_Best_1'_n] at h
  | n + 1, _, _, _, _, _, _, h => W.setup_Best_1'_body_ok (setup_Best_1'_n n) (W.setup_Best_1'_n_ok n) h
theorem W.setup_Best_1'_ok {order : (List Int)} {h0_0 : Int} {h1_0 : (List Int)} {h3_0 : (List (List (List Int)))} {h4_0 : Int} {r : Int × (List Int)} (h : setup_Best_1' order h0_0 h1_0 h3_0 h4_0 = some r) : PC G.P 63 [(.sl (List.map cI order)), (.ptr 1000003 0), (.ptr 1000004 0), (.ptr 1000000 0), (.ptr 1000001 0), (.ptr 1000002 0)] [(1000000, .box [(vI h0_0)]), (1000001, .box [(.sl (List.map cI h1_0))]), (1000002, .box [(.fn 63 [(.ptr 1000003 0), (.ptr 1000004 0), (.ptr 1000000 0), (.ptr 1000001 0), (.ptr 1000002 0)])]), (1000003, .box [(.sl (List.map (cS (cS cI)) h3_0))]), (1000004, .box [(vI h4_0)])] (.tup []) [(1000000, .box [(vI r.1)]), (1000001, .box [(.sl (List.map cI r.2))]), (1000002, .box [(.fn 63 [(.ptr 1000003 0), (.ptr 1000004 0), (.ptr 1000000 0), (.ptr 1000001 0), (.ptr 1000002 0)])]), (1000003, .box [(.sl (List.map (cS (cS cI)) h3_0))]), (1000004, .box [(vI h4_0)])] := W.setup_Best_1'_n_ok 1000 h

theorem W.setup_Best_1_body_ok (self : (List Int) → Int → (List Int) → (List (List (List Int))) → Int → Option (Int × (List Int))) (hself : ∀ {order : (List Int)} {h0_0 : Int} {h2 : (List Int)} {h4_0 : (List (List (List Int)))} {h5_0 : Int} {r : Int × (List Int)}, self order h0_0 h2 h4_0 h5_0 = some r → PC G.P 63 [(.sl (List.map cI order)), (.ptr 1000004 0), (.ptr 1000005 0), (.ptr 1000000 0), (.ptr 1000001 0), (.ptr 1000003 0)] [(1000000, .box [(vI h0_0)]), (1000001, .box [(.row (.top 300002) 3)]), (300002, .row 3 [] (List.map cI h2)), (1000003, .box [(.fn 63 [(.ptr 1000004 0), (.ptr 1000005 0), (.ptr 1000000 0), (.ptr 1000001 0), (.ptr 1000003 0)])]), (1000004, .box [(.sl (List.map (cS (cS cI)) h4_0))]), (1000005, .box [(vI h5_0)])] (.tup []) [(1000000, .box [(vI r.1)]), (1000001, .box [(.sl (List.map cI r.2))]), (1000003, .box [(.fn 63 [(.ptr 1000004 0), (.ptr 1000005 0), (.ptr 1000000 0), (.ptr 1000001 0), (.ptr 1000003 0)])]), (1000004, .box [(.sl (List.map (cS (cS cI)) h4_0))]), (1000005, .box [(vI h5_0)])]) {order : (List Int)} {h0_0 : Int} {h2 : (List Int)} {h4_0 : (List (List (List Int)))} {h5_0 : Int} {r : Int × (List Int)} (h : setup_Best_1_body self order h0_0 h2 h4_0 h5_0 = some r) : PC G.P 63 [(.sl (List.map cI order)), (.ptr 1000004 0), (.ptr 1000005 0), (.ptr 1000000 0), (.ptr 1000001 0), (.ptr 1000003 0)] [(1000000, .box [(vI h0_0)]), (1000001, .box [(.row (.top 300002) 3)]), (300002, .row 3 [] (List.map cI h2)), (1000003, .box [(.fn 63 [(.ptr 1000004 0), (.ptr 1000005 0), (.ptr 1000000 0), (.ptr 1000001 0), (.ptr 1000003 0)])]), (1000004, .box [(.sl (List.map (cS (cS cI)) h4_0))]), (1000005, .box [(vI h5_0)])] (.tup []) [(1000000, .box [(vI r.1)]), (1000001, .box [(.sl (List.map cI r.2))]), (1000003, .box [(.fn 63 [(.ptr 1000004 0), (.ptr 1000005 0), (.ptr 1000000 0), (.ptr 1000001 0), (.ptr 1000003 0)])]), (1000004, .box [(.sl (List.map (cS (cS cI)) h4_0))]), (1000005, .box [(vI h5_0)])] := by
  refine pc_of G (fn := Try.f63) Try.func63 (by kernel_rfl) (by kernel_rfl) (by kernel_rfl) (by kernel_rfl) (by kernel_rfl) ?_
  refine sem_set ⟨[(0, (.sl (List.map cI order))), (1, (.ptr 1000004 0)), (2, (.ptr 1000005 0)), (3, (.ptr 1000000 0)), (4, (.ptr 1000001 0)), (5, (.ptr 1000003 0))], [(300002, .row 3 [] (List.map cI h2)), (1000000, .box [(vI h0_0)]), (1000001, .box [(.row (.top 300002) 3)]), (1000003, .box [(.fn 63 [(.ptr 1000004 0), (.ptr 1000005 0), (.ptr 1000000 0), (.ptr 1000001 0), (.ptr 1000003 0)])]), (1000004, .box [(.sl (List.map (cS (cS cI)) h4_0))]), (1000005, .box [(vI h5_0)])]⟩ (by kernel_rfl) ?_
  refine sem_seq (by kernel_rfl) ?_
  refine sem_seq (by kernel_rfl) ?_
  refine sem_region (by kernel_rfl) ?_
  refine evs_run 1 (by kernel_rfl) ?_
  refine evs_op (st_len (c := cI) (l := order) (x := (.sl (List.map cI order))) (by kernel_rfl) (by kernel_rfl)) ?_
  refine evs_run 1 (by kernel_rfl) ?_
  refine evs_op (st_len (c := (cS (cS cI))) (l := h4_0) (x := (.sl (List.map (cS (cS cI)) h4_0))) (by kernel_rfl) (by kernel_rfl)) ?_
  refine evs_run 1 (by kernel_rfl) ?_
  refine evs_endS (by kernel_rfl) (fun τ hτ => ?_)
  refine th_normalS hτ ⟨[(0, (.sl (List.map cI order))), (1, (.ptr 1000004 0)), (2, (.ptr 1000005 0)), (3, (.ptr 1000000 0)), (4, (.ptr 1000001 0)), (5, (.ptr 1000003 0)), (13, (vB ((order.length : Int) == (h4_0.length : Int))))], [(300002, .row 3 [] (List.map cI h2)), (1000000, .box [(vI h0_0)]), (1000001, .box [(.row (.top 300002) 3)]), (1000003, .box [(.fn 63 [(.ptr 1000004 0), (.ptr 1000005 0), (.ptr 1000000 0), (.ptr 1000001 0), (.ptr 1000003 0)])]), (1000004, .box [(.sl (List.map (cS (cS cI)) h4_0))]), (1000005, .box [(vI h5_0)])]⟩ (here (by kernel_rfl)) ?_
  refine sem_cond ((order.length : Int) == (h4_0.length : Int)) (by kernel_rfl) (by kernel_rfl) (fun hb => ?_) (fun hb => ?_)
  · replace h := iteT hb h
    refine sem_seqJ (fun (j23 : Int × (List Int)) => ⟨[], [(1000000, .box [(vI j23.1)]), (1000001, .box [(.sl (List.map cI j23.2))]), (1000003, .box [(.fn 63 [(.ptr 1000004 0), (.ptr 1000005 0), (.ptr 1000000 0), (.ptr 1000001 0), (.ptr 1000003 0)])]), (1000004, .box [(.sl (List.map (cS (cS cI)) h4_0))]), (1000005, .box [(vI h5_0)])]⟩) (setup_Best_1_k1) r (by kernel_rfl) (fun j23 h => ?_) ?_
    · refine sem_retS (by kernel_rfl) (fun τ hτ => ?_)
      refine th_ret ?_
      obtain rfl := Option.some.inj h
      exact rk_ret hτ [] (here (by kernel_rfl)) (by kernel_rfl)
    refine sem_seq (by kernel_rfl) ?_
    refine sem_draw [(2, [700100])] [(2, [700100])] [] [(3, [700100])] [(0, [700100]), (1, [700100]), (3, [700100])] 4 (by kernel_rfl) (by kernel_rfl) [700100] (by kernel_rfl) (by kernel_rfl) ?_
    refine evd_run 2 (by kernel_rfl) ?_
    obtain ⟨r28, hr28, h⟩ := bindS h
    refine evd_callS [(0, 700100)] [] (by kernel_rfl) (by kernel_rfl) (W.setup_join_ok hr28) (by kernel_rfl) (.inl rfl) (by kernel_rfl) (by kernel_rfl) ?_
    refine evd_run 1 (by kernel_rfl) ?_
    refine evd_end (by kernel_rfl) ?_
    obtain ⟨r29, hr29, h⟩ := bindS h
    refine evo_callP [700100] (by kernel_rfl) (W.setup_fewest_ok hr29) (by kernel_rfl) (.inr rfl) (by kernel_rfl) ?_
    refine evo_run 1 (by kernel_rfl) ?_
    refine evo_endS (by kernel_rfl) (fun τ hτ => ?_)
    refine th_normalS hτ ⟨[(0, (.sl (List.map cI order))), (3, (.ptr 1000000 0)), (4, (.ptr 1000001 0)), (7, (vI r29))], [(300002, .row 3 [] (List.map cI h2)), (1000000, .box [(vI h0_0)]), (1000001, .box [(.row (.top 300002) 3)]), (1000003, .box [(.fn 63 [(.ptr 1000004 0), (.ptr 1000005 0), (.ptr 1000000 0), (.ptr 1000001 0), (.ptr 1000003 0)])]), (1000004, .box [(.sl (List.map (cS (cS cI)) h4_0))]), (1000005, .box [(vI h5_0)])]⟩ (here (by kernel_rfl)) ?_
    refine sem_seq (by kernel_rfl) ?_
    obtain ⟨j30, hj30, h⟩ := bindS h
    refine sem_regionC ⟨[(0, (.sl (List.map cI order))), (3, (.ptr 1000000 0)), (4, (.ptr 1000001 0)), (7, (vI r29)), (25, (vB j30))], [(500000, .row 3 [] (List.map cI h2)), (1000000, .box [(vI h0_0)]), (1000001, .box [(.row (.top 500000) 3)]), (1000003, .box [(.fn 63 [(.ptr 1000004 0), (.ptr 1000005 0), (.ptr 1000000 0), (.ptr 1000001 0), (.ptr 1000003 0)])]), (1000004, .box [(.sl (List.map (cS (cS cI)) h4_0))]), (1000005, .box [(vI h5_0)])]⟩ (by kernel_rfl) ?_ (fun τ hτ => ?_)
    · replace h := hj30
      refine evs_run 3 (by kernel_rfl) ?_
      refine evs_split (decide (h0_0 < 0)) (fun b0 => ⟨[(0, (.sl (List.map cI order))), (3, (.ptr 1000000 0)), (4, (.ptr 1000001 0)), (7, (vI r29)), (21, (vB b0))], [(300002, .row 3 [] (List.map cI h2)), (1000000, .box [(vI h0_0)]), (1000001, .box [(.row (.top 300002) 3)]), (1000003, .box [(.fn 63 [(.ptr 1000004 0), (.ptr 1000005 0), (.ptr 1000000 0), (.ptr 1000001 0), (.ptr 1000003 0)])]), (1000004, .box [(.sl (List.map (cS (cS cI)) h4_0))]), (1000005, .box [(vI h5_0)])]⟩) (by kernel_rfl) (fun hb => ?_) (fun hb => ?_)
      · replace h := iteT hb h
        refine evs_run 4 (by kernel_rfl) ?_
        refine evs_endS (by kernel_rfl) (fun τ hτ => ?_)
        obtain rfl := Option.some.inj h
        exact leafC hτ (subR_prep [] [(300002, 500000), (1000000, 1000000), (1000001, 1000001), (1000003, 1000003), (1000004, 1000004), (1000005, 1000005)] (by kernel_rfl) rfl rfl (by kernel_rfl))
      · replace h := iteF hb h
        refine evs_run 4 (by kernel_rfl) ?_
        refine evs_endS (by kernel_rfl) (fun τ hτ => ?_)
        obtain rfl := Option.some.inj h
        exact leafC hτ (subR_prep [] [(300002, 500000), (1000000, 1000000), (1000001, 1000001), (1000003, 1000003), (1000004, 1000004), (1000005, 1000005)] (by kernel_rfl) rfl rfl (by kernel_rfl))
    refine th_normalS hτ ⟨[(0, (.sl (List.map cI order))), (3, (.ptr 1000000 0)), (4, (.ptr 1000001 0)), (7, (vI r29)), (25, (vB j30))], [(500000, .row 3 [] (List.map cI h2)), (1000000, .box [(vI h0_0)]), (1000001, .box [(.row (.top 500000) 3)]), (1000003, .box [(.fn 63 [(.ptr 1000004 0), (.ptr 1000005 0), (.ptr 1000000 0), (.ptr 1000001 0), (.ptr 1000003 0)])]), (1000004, .box [(.sl (List.map (cS (cS cI)) h4_0))]), (1000005, .box [(vI h5_0)])]⟩ (here (by kernel_rfl)) ?_
    refine sem_cond j30 (by kernel_rfl) (by kernel_rfl) (fun hb => ?_) (fun hb => ?_)
    · replace h := iteT hb h
      refine sem_region (by kernel_rfl) ?_
      refine evs_run 4 (by kernel_rfl) ?_
      refine evs_endS (by kernel_rfl) (fun τ hτ => ?_)
      exact jk_normal (r29, order) h hτ (here (by kernel_rfl))
    · replace h := iteF hb h
      refine sem_skipS (by kernel_rfl) (fun τ hτ => ?_)
      exact jk_normal (h0_0, h2) h hτ (subR_prep [.frz 500000] [(1000000, 1000000), (1000001, 1000001), (1000003, 1000003), (1000004, 1000004), (1000005, 1000005)] (by kernel_rfl) rfl rfl (by kernel_rfl))
  · replace h := iteF hb h
    refine sem_skipS (by kernel_rfl) (fun τ hτ => ?_)
    refine th_normalS hτ ⟨[(0, (.sl (List.map cI order))), (1, (.ptr 1000004 0)), (5, (.ptr 1000003 0))], [(300002, .row 3 [] (List.map cI h2)), (1000000, .box [(vI h0_0)]), (1000001, .box [(.row (.top 300002) 3)]), (1000003, .box [(.fn 63 [(.ptr 1000004 0), (.ptr 1000005 0), (.ptr 1000000 0), (.ptr 1000001 0), (.ptr 1000003 0)])]), (1000004, .box [(.sl (List.map (cS (cS cI)) h4_0))]), (1000005, .box [(vI h5_0)])]⟩ (here (by kernel_rfl)) ?_
    refine sem_seq (by kernel_rfl) ?_
    refine sem_region (by kernel_rfl) ?_
    refine evs_run 1 (by kernel_rfl) ?_
    refine evs_op (st_len (c := (cS (cS cI))) (l := h4_0) (x := (.sl (List.map (cS (cS cI)) h4_0))) (by kernel_rfl) (by kernel_rfl)) ?_
    refine evs_run 1 (by kernel_rfl) ?_
    refine evs_endS (by kernel_rfl) (fun τ hτ => ?_)
    refine th_normalS hτ ⟨[(0, (.sl (List.map cI order))), (5, (.ptr 1000003 0)), (29, (vI (h4_0.length : Int))), (30, (vI 0))], [(300002, .row 3 [] (List.map cI h2)), (1000000, .box [(vI h0_0)]), (1000001, .box [(.row (.top 300002) 3)]), (1000003, .box [(.fn 63 [(.ptr 1000004 0), (.ptr 1000005 0), (.ptr 1000000 0), (.ptr 1000001 0), (.ptr 1000003 0)])]), (1000004, .box [(.sl (List.map (cS (cS cI)) h4_0))]), (1000005, .box [(vI h5_0)])]⟩ (here (by kernel_rfl)) ?_
    refine sem_block (by kernel_rfl) ?_
    obtain ⟨x102, hx102, h⟩ := bindS h
    refine sem_loopS (fun (s55 : Int × Int × (List Int)) => ⟨[(0, (.sl (List.map cI order))), (5, (.ptr 1000003 0)), (29, (vI (h4_0.length : Int))), (30, (vI s55.1))], [(1000000, .box [(vI s55.2.1)]), (1000001, .box [(.sl (List.map cI s55.2.2))]), (1000003, .box [(.fn 63 [(.ptr 1000004 0), (.ptr 1000005 0), (.ptr 1000000 0), (.ptr 1000001 0), (.ptr 1000003 0)])]), (1000004, .box [(.sl (List.map (cS (cS cI)) h4_0))]), (1000005, .box [(vI h5_0)])]⟩) (fun (x102 : Int × (List Int)) => (.exit 0, ⟨[], [(1000000, .box [(vI x102.1)]), (1000001, .box [(.sl (List.map cI x102.2))]), (1000003, .box [(.fn 63 [(.ptr 1000004 0), (.ptr 1000005 0), (.ptr 1000000 0), (.ptr 1000001 0), (.ptr 1000003 0)])]), (1000004, .box [(.sl (List.map (cS (cS cI)) h4_0))]), (1000005, .box [(vI h5_0)])]⟩)) (setup_Best_1_l3 order h4_0 h5_0) (0, h0_0, h2) x102 (by kernel_rfl) (subR_prep [.frz 300002] [(1000000, 1000000), (1000001, 1000001), (1000003, 1000003), (1000004, 1000004), (1000005, 1000005)] (by kernel_rfl) rfl rfl (by kernel_rfl)) hx102 ?_ ?_ ?_
    · intro s55 r h
      refine sem_seq (by kernel_rfl) ?_
      refine sem_region (by kernel_rfl) ?_
      refine evs_run 1 (by kernel_rfl) ?_
      refine evs_endS (by kernel_rfl) (fun τ hτ => ?_)
      refine th_normalS hτ ⟨[(0, (.sl (List.map cI order))), (5, (.ptr 1000003 0)), (29, (vI (h4_0.length : Int))), (30, (vI s55.1)), (31, (vB (decide (s55.1 < (h4_0.length : Int)))))], [(1000000, .box [(vI s55.2.1)]), (1000001, .box [(.sl (List.map cI s55.2.2))]), (1000003, .box [(.fn 63 [(.ptr 1000004 0), (.ptr 1000005 0), (.ptr 1000000 0), (.ptr 1000001 0), (.ptr 1000003 0)])]), (1000004, .box [(.sl (List.map (cS (cS cI)) h4_0))]), (1000005, .box [(vI h5_0)])]⟩ (here (by kernel_rfl)) ?_
      refine sem_seq (by kernel_rfl) ?_
      refine sem_cond (decide (s55.1 < (h4_0.length : Int))) (by kernel_rfl) (by kernel_rfl) (fun hb => ?_) (fun hb => ?_)
      · replace h := iteT hb h
        refine sem_skipS (by kernel_rfl) (fun τ hτ => ?_)
        refine th_normalS hτ ⟨[(0, (.sl (List.map cI order))), (5, (.ptr 1000003 0)), (29, (vI (h4_0.length : Int))), (30, (vI s55.1))], [(1000000, .box [(vI s55.2.1)]), (1000001, .box [(.sl (List.map cI s55.2.2))]), (1000003, .box [(.fn 63 [(.ptr 1000004 0), (.ptr 1000005 0), (.ptr 1000000 0), (.ptr 1000001 0), (.ptr 1000003 0)])]), (1000004, .box [(.sl (List.map (cS (cS cI)) h4_0))]), (1000005, .box [(vI h5_0)])]⟩ (here (by kernel_rfl)) ?_
        refine sem_seqJ (fun (j90 : Int × (List Int)) => ⟨[(0, (.sl (List.map cI order))), (5, (.ptr 1000003 0)), (29, (vI (h4_0.length : Int))), (30, (vI s55.1))], [(1000000, .box [(vI j90.1)]), (1000001, .box [(.sl (List.map cI j90.2))]), (1000003, .box [(.fn 63 [(.ptr 1000004 0), (.ptr 1000005 0), (.ptr 1000000 0), (.ptr 1000001 0), (.ptr 1000003 0)])]), (1000004, .box [(.sl (List.map (cS (cS cI)) h4_0))]), (1000005, .box [(vI h5_0)])]⟩) (setup_Best_1_k2 s55) r (by kernel_rfl) (fun j90 h => ?_) ?_
        · refine sem_region (by kernel_rfl) ?_
          refine evs_run 2 (by kernel_rfl) ?_
          refine evs_endS (by kernel_rfl) (fun τ hτ => ?_)
          obtain rfl := Option.some.inj h
          exact lk_nextS hτ (here (by kernel_rfl))
        refine sem_block (by kernel_rfl) ?_
        refine sem_seq (by kernel_rfl) ?_
        refine sem_region (by kernel_rfl) ?_
        refine evs_run 2 (by kernel_rfl) ?_
        refine evs_endS (by kernel_rfl) (fun τ hτ => ?_)
        refine th_normalS hτ ⟨[(0, (.sl (List.map cI order))), (5, (.ptr 1000003 0)), (8, (vI s55.1)), (29, (vI (h4_0.length : Int))), (30, (vI s55.1))], [(1000000, .box [(vI s55.2.1)]), (1000001, .box [(.sl (List.map cI s55.2.2))]), (1000003, .box [(.fn 63 [(.ptr 1000004 0), (.ptr 1000005 0), (.ptr 1000000 0), (.ptr 1000001 0), (.ptr 1000003 0)])]), (1000004, .box [(.sl (List.map (cS (cS cI)) h4_0))]), (1000005, .box [(vI h5_0)])]⟩ (here (by kernel_rfl)) ?_
        refine sem_seq (by kernel_rfl) ?_
        refine sem_region (by kernel_rfl) ?_
        refine evs_run 2 (by kernel_rfl) ?_
        obtain ⟨r92, hr92, h⟩ := bindS h
        refine evs_callP [] (by kernel_rfl) (W.slices_Contains_Lint_int_ok hr92) (by kernel_rfl) (.inl rfl) (by kernel_rfl) ?_
        refine evs_run 1 (by kernel_rfl) ?_
        refine evs_endS (by kernel_rfl) (fun τ hτ => ?_)
        refine th_normalS hτ ⟨[(0, (.sl (List.map cI order))), (5, (.ptr 1000003 0)), (8, (vI s55.1)), (29, (vI (h4_0.length : Int))), (30, (vI s55.1)), (36, (vB (!r92)))], [(1000000, .box [(vI s55.2.1)]), (1000001, .box [(.sl (List.map cI s55.2.2))]), (1000003, .box [(.fn 63 [(.ptr 1000004 0), (.ptr 1000005 0), (.ptr 1000000 0), (.ptr 1000001 0), (.ptr 1000003 0)])]), (1000004, .box [(.sl (List.map (cS (cS cI)) h4_0))]), (1000005, .box [(vI h5_0)])]⟩ (here (by kernel_rfl)) ?_
        refine sem_cond (!r92) (by kernel_rfl) (by kernel_rfl) (fun hb => ?_) (fun hb => ?_)
        · replace h := iteT hb h
          refine sem_draw [(2, [700100]), (5, [700100, 600005])] [(2, [700100]), (5, [600005])] [] [(0, [700100, 600005]), (3, [700100]), (4, [700100])] [(0, [700100, 600005]), (1, [700100, 600005]), (2, [600005]), (3, [700100, 600005]), (4, [700100, 600005])] 6 (by kernel_rfl) (by kernel_rfl) [700100, 600005] (by kernel_rfl) (by kernel_rfl) ?_
          refine evd_run 2 (by kernel_rfl) ?_
          obtain ⟨r99, hr99, h⟩ := bindS h
          refine evd_callS [(0, 700100)] [] (by kernel_rfl) (by kernel_rfl) (W.slices_Clone_Lint_int_ok hr99) (by kernel_rfl) (.inl rfl) (by kernel_rfl) (by kernel_rfl) ?_
          refine evd_run 2 (by kernel_rfl) ?_
          obtain ⟨l100, hl100, h⟩ := bindS h
          refine evd_app (c := cI) (l := r99) (l2 := [s55.1]) (x := (.sl (List.map cI [s55.1]))) (g := 700100) (g2 := 600005) (e := 3) (sz := 1) (d := 42) (by kernel_rfl) (by kernel_rfl) (by kernel_rfl) (by kernel_rfl) (by kernel_rfl) (fun _ => rfl) hl100 (by kernel_rfl) (by kernel_rfl) (by kernel_rfl) (by kernel_rfl) (by kernel_rfl) ?_
          refine evd_end (by kernel_rfl) ?_
          refine evo_prep [.frz 600005] (by kernel_rfl) ?_
          obtain ⟨r101, hr101, h⟩ := bindS h
          refine evo_callS [(1000000, 1000000), (1000001, 1000001), (1000002, 1000003), (1000003, 1000004), (1000004, 1000005)] [] [] (by kernel_rfl) (W.setup_Best_1'_ok hr101) (by kernel_rfl) (by kernel_rfl) (.inl rfl) ?_
          refine evo_endS (by kernel_rfl) (fun τ hτ => ?_)
          refine bl_normal ?_
          exact jk_normal (r101.1, r101.2) h hτ (here (by kernel_rfl))
        · replace h := iteF hb h
          refine sem_skipS (by kernel_rfl) (fun τ hτ => ?_)
          refine bl_normal ?_
          exact jk_normal (s55.2.1, s55.2.2) h hτ (here (by kernel_rfl))
      · replace h := iteF hb h
        refine sem_exitS 0 (by kernel_rfl) rfl (fun τ hτ => ?_)
        refine th_exit ?_
        obtain rfl := Option.some.inj h
        exact lk_outS hτ rfl (here (by kernel_rfl))
    · intro x
      rfl
    · intro τ hτ
      refine bl_hit (by kernel_rfl) ?_
      obtain rfl := Option.some.inj h
      exact rk_normal hτ [] (here (by kernel_rfl)) (by kernel_rfl)
theorem W.setup_Best_1_n_ok : ∀ (n : Nat) {order : (List Int)} {h0_0 : Int} {h2 : (List Int)} {h4_0 : (List (List (List Int)))} {h5_0 : Int} {r : Int × (List Int)}, setup_Best_1_n n order h0_0 h2 h4_0 h5_0 = some r → PC G.P 63 [(.sl (List.map cI order)), (.ptr 1000004 0), (.ptr 1000005 0), (.ptr 1000000 0), (.ptr 1000001 0), (.ptr 1000003 0)] [(1000000, .box [(vI h0_0)]), (1000001, .box [(.row (.top 300002) 3)]), (300002, .row 3 [] (List.map cI h2)), (1000003, .box [(.fn 63 [(.ptr 1000004 0), (.ptr 1000005 0), (.ptr 1000000 0), (.ptr 1000001 0), (.ptr 1000003 0)])]), (1000004, .box [(.sl (List.map (cS (cS cI)) h4_0))]), (1000005, .box [(vI h5_0)])] (.tup []) [(1000000, .box [(vI r.1)]), (1000001, .box [(.sl (List.map cI r.2))]), (1000003, .box [(.fn 63 [(.ptr 1000004 0), (.ptr 1000005 0), (.ptr 1000000 0), (.ptr 1000001 0), (.ptr 1000003 0)])]), (1000004, .box [(.sl (List.map (cS (cS cI)) h4_0))]), (1000005, .box [(vI h5_0)])]
  | 0, _, _, _, _, _, _, h => by simp [setup_Best_1_n] at h
  | n + 1, _, _, _, _, _, _, h => W.setup_Best_1_body_ok (setup_Best_1_n n) (W.setup_Best_1_n_ok n) h
theorem W.setup_Best_1_ok {order : (List Int)} {h0_0 : Int} {h2 : (List Int)} {h4_0 : (List (List (List Int)))} {h5_0 : Int} {r : Int × (List Int)} (h : setup_Best_1 order h0_0 h2 h4_0 h5_0 = some r) : PC G.P 63 [(.sl (List.map cI order)), (.ptr 1000004 0), (.ptr 1000005 0), (.ptr 1000000 0), (.ptr 1000001 0), (.ptr 1000003 0)] [(1000000, .box [(vI h0_0)]), (1000001, .box [(.row (.top 300002) 3)]), (300002, .row 3 [] (List.map cI h2)), (1000003, .box [(.fn 63 [(.ptr 1000004 0), (.ptr 1000005 0), (.ptr 1000000 0), (.ptr 1000001 0), (.ptr 1000003 0)])]), (1000004, .box [(.sl (List.map (cS (cS cI)) h4_0))]), (1000005, .box [(vI h5_0)])] (.tup []) [(1000000, .box [(vI r.1)]), (1000001, .box [(.sl (List.map cI r.2))]), (1000003, .box [(.fn 63 [(.ptr 1000004 0), (.ptr 1000005 0), (.ptr 1000000 0), (.ptr 1000001 0), (.ptr 1000003 0)])]), (1000004, .box [(.sl (List.map (cS (cS cI)) h4_0))]), (1000005, .box [(vI h5_0)])] := W.setup_Best_1_n_ok 1000 h

theorem W.setup_Best_ok {jobs : (List (List (List Int)))} {stations : Int} {r : (List Int) × Int × Int} (h : setup_Best jobs stations = some r) : PC G.P 32 [(.sl (List.map (cS (cS cI)) jobs)), (vI stations)] [] (.tup [(.sl (List.map cI r.1)), (vI r.2.1), (vI r.2.2)]) [] := by
  refine pc_of G (fn := Try.f32) Try.func32 (by kernel_rfl) (by kernel_rfl) (by kernel_rfl) (by kernel_rfl) (by kernel_rfl) ?_
  refine sem_set ⟨[(0, (.sl (List.map (cS (cS cI)) jobs))), (1, (vI stations))], []⟩ (by kernel_rfl) ?_
  refine sem_seq (by kernel_rfl) ?_
  refine sem_region (by kernel_rfl) ?_
  refine evs_run 5 (by kernel_rfl) ?_
  refine evs_endS (by kernel_rfl) (fun τ hτ => ?_)
  refine th_normalS hτ ⟨[(2, (.ptr 2 0)), (3, (.ptr 3 0))], [(2, .box [(.sl (List.map (cS (cS cI)) jobs))]), (3, .box [(vI stations)])]⟩ (here (by kernel_rfl)) ?_
  refine sem_seq (by kernel_rfl) ?_
  refine sem_seq (by kernel_rfl) ?_
  refine sem_region (by kernel_rfl) ?_
  refine evs_run 1 (by kernel_rfl) ?_
  obtain ⟨r4, hr4, h⟩ := bindS h
  refine evs_callP [] (by kernel_rfl) (W.setup_checkJobs_ok hr4) (by kernel_rfl) (.inl rfl) (by kernel_rfl) ?_
  refine evs_run 1 (by kernel_rfl) ?_
  refine evs_endS (by kernel_rfl) (fun τ hτ => ?_)
  refine th_normalS hτ ⟨[(2, (.ptr 2 0)), (3, (.ptr 3 0)), (7, (vI r4))], [(2, .box [(.sl (List.map (cS (cS cI)) jobs))]), (3, .box [(vI stations)])]⟩ (here (by kernel_rfl)) ?_
  refine sem_seq (by kernel_rfl) ?_
  refine sem_region (by kernel_rfl) ?_
  refine evs_run 2 (by kernel_rfl) ?_
  refine evs_endS (by kernel_rfl) (fun τ hτ => ?_)
  refine th_normalS hτ ⟨[(2, (.ptr 2 0)), (3, (.ptr 3 0)), (7, (vI r4)), (14, (vB (r4 != 0)))], [(2, .box [(.sl (List.map (cS (cS cI)) jobs))]), (3, .box [(vI stations)])]⟩ (here (by kernel_rfl)) ?_
  refine sem_cond (r4 != 0) (by kernel_rfl) (by kernel_rfl) (fun hb => ?_) (fun hb => ?_)
  · replace h := iteT hb h
    refine sem_seq (by kernel_rfl) ?_
    refine sem_region (by kernel_rfl) ?_
    refine evs_run 4 (by kernel_rfl) ?_
    refine evs_endS (by kernel_rfl) (fun τ hτ => ?_)
    refine th_normalS hτ ⟨[(4, (.row (.top 4) 3)), (5, (vI 0)), (6, (vI r4))], [(4, .row 3 [] (List.map cI []))]⟩ (here (by kernel_rfl)) ?_
    refine sem_retS (by kernel_rfl) (fun τ hτ => ?_)
    refine th_ret ?_
    obtain rfl := Option.some.inj h
    exact rk_ret hτ [(4, (.sl (List.map cI []))), (5, (vI 0)), (6, (vI r4))] (subR_prep [.frz 4] [] (by kernel_rfl) rfl rfl (by kernel_rfl)) (by kernel_rfl)
  · replace h := iteF hb h
    refine sem_skipS (by kernel_rfl) (fun τ hτ => ?_)
    refine th_normalS hτ ⟨[(2, (.ptr 2 0)), (3, (.ptr 3 0))], [(2, .box [(.sl (List.map (cS (cS cI)) jobs))]), (3, .box [(vI stations)])]⟩ (here (by kernel_rfl)) ?_
    refine sem_seq (by kernel_rfl) ?_
    refine sem_seq (by kernel_rfl) ?_
    obtain ⟨j6, hj6, h⟩ := bindS h
    refine sem_regionC ⟨[(2, (.ptr 500000 0)), (3, (.ptr 500001 0)), (21, (vB j6))], [(500000, .box [(.sl (List.map (cS (cS cI)) jobs))]), (500001, .box [(vI stations)])]⟩ (by kernel_rfl) ?_ (fun τ hτ => ?_)
    · replace h := hj6
      refine evs_run 3 (by kernel_rfl) ?_
      refine evs_split (decide (stations < 1)) (fun b0 => ⟨[(2, (.ptr 2 0)), (3, (.ptr 3 0)), (18, (vB b0))], [(2, .box [(.sl (List.map (cS (cS cI)) jobs))]), (3, .box [(vI stations)])]⟩) (by kernel_rfl) (fun hb => ?_) (fun hb => ?_)
      · replace h := iteT hb h
        refine evs_run 3 (by kernel_rfl) ?_
        refine evs_endS (by kernel_rfl) (fun τ hτ => ?_)
        obtain rfl := Option.some.inj h
        exact leafC hτ (subR_prep [] [(2, 500000), (3, 500001)] (by kernel_rfl) rfl rfl (by kernel_rfl))
      · replace h := iteF hb h
        refine evs_run 3 (by kernel_rfl) ?_
        refine evs_endS (by kernel_rfl) (fun τ hτ => ?_)
        obtain rfl := Option.some.inj h
        exact leafC hτ (subR_prep [] [(2, 500000), (3, 500001)] (by kernel_rfl) rfl rfl (by kernel_rfl))
    refine th_normalS hτ ⟨[(2, (.ptr 500000 0)), (3, (.ptr 500001 0)), (21, (vB j6))], [(500000, .box [(.sl (List.map (cS (cS cI)) jobs))]), (500001, .box [(vI stations)])]⟩ (here (by kernel_rfl)) ?_
    refine sem_cond j6 (by kernel_rfl) (by kernel_rfl) (fun hb => ?_) (fun hb => ?_)
    · replace h := iteT hb h
      refine sem_seq (by kernel_rfl) ?_
      refine sem_region (by kernel_rfl) ?_
      refine evs_run 3 (by kernel_rfl) ?_
      refine evs_endS (by kernel_rfl) (fun τ hτ => ?_)
      refine th_normalS hτ ⟨[(4, (.row (.top 4) 3)), (5, (vI 0)), (6, (vI 1))], [(4, .row 3 [] (List.map cI []))]⟩ (here (by kernel_rfl)) ?_
      refine sem_retS (by kernel_rfl) (fun τ hτ => ?_)
      refine th_ret ?_
      obtain rfl := Option.some.inj h
      exact rk_ret hτ [(4, (.sl (List.map cI []))), (5, (vI 0)), (6, (vI 1))] (subR_prep [.frz 4] [] (by kernel_rfl) rfl rfl (by kernel_rfl)) (by kernel_rfl)
    · replace h := iteF hb h
      refine sem_skipS (by kernel_rfl) (fun τ hτ => ?_)
      refine th_normalS hτ ⟨[(2, (.ptr 500000 0)), (3, (.ptr 500001 0))], [(500000, .box [(.sl (List.map (cS (cS cI)) jobs))]), (500001, .box [(vI stations)])]⟩ (here (by kernel_rfl)) ?_
      refine sem_seq (by kernel_rfl) ?_
      refine sem_seq (by kernel_rfl) ?_
      refine sem_region (by kernel_rfl) ?_
      refine evs_run 1 (by kernel_rfl) ?_
      obtain ⟨r10, hr10, h⟩ := bindS h
      refine evs_callP [] (by kernel_rfl) (W.setup_tooMany_ok hr10) (by kernel_rfl) (.inl rfl) (by kernel_rfl) ?_
      refine evs_endS (by kernel_rfl) (fun τ hτ => ?_)
      refine th_normalS hτ ⟨[(2, (.ptr 500000 0)), (3, (.ptr 500001 0)), (23, (vB r10))], [(500000, .box [(.sl (List.map (cS (cS cI)) jobs))]), (500001, .box [(vI stations)])]⟩ (here (by kernel_rfl)) ?_
      refine sem_cond r10 (by kernel_rfl) (by kernel_rfl) (fun hb => ?_) (fun hb => ?_)
      · replace h := iteT hb h
        refine sem_seq (by kernel_rfl) ?_
        refine sem_region (by kernel_rfl) ?_
        refine evs_run 3 (by kernel_rfl) ?_
        refine evs_endS (by kernel_rfl) (fun τ hτ => ?_)
        refine th_normalS hτ ⟨[(4, (.row (.top 4) 3)), (5, (vI 0)), (6, (vI 4))], [(4, .row 3 [] (List.map cI []))]⟩ (here (by kernel_rfl)) ?_
        refine sem_retS (by kernel_rfl) (fun τ hτ => ?_)
        refine th_ret ?_
        obtain rfl := Option.some.inj h
        exact rk_ret hτ [(4, (.sl (List.map cI []))), (5, (vI 0)), (6, (vI 4))] (subR_prep [.frz 4] [] (by kernel_rfl) rfl rfl (by kernel_rfl)) (by kernel_rfl)
      · replace h := iteF hb h
        refine sem_skipS (by kernel_rfl) (fun τ hτ => ?_)
        refine th_normalS hτ ⟨[(2, (.ptr 500000 0)), (3, (.ptr 500001 0))], [(500000, .box [(.sl (List.map (cS (cS cI)) jobs))]), (500001, .box [(vI stations)])]⟩ (here (by kernel_rfl)) ?_
        refine sem_seq (by kernel_rfl) ?_
        refine sem_region (by kernel_rfl) ?_
        refine evs_run 1 (by kernel_rfl) ?_
        refine evs_prep [.row (.box 8 0) 800008 3 []] (by kernel_rfl) ?_
        refine evs_endS (by kernel_rfl) (fun τ hτ => ?_)
        refine th_normalS hτ ⟨[(2, (.ptr 500000 0)), (3, (.ptr 500001 0)), (8, (.ptr 8 0))], [(8, .box [(.row (.top 800008) 3)]), (500000, .box [(.sl (List.map (cS (cS cI)) jobs))]), (500001, .box [(vI stations)]), (800008, .row 3 [] (List.map cI []))]⟩ (here (by kernel_rfl)) ?_
        refine sem_seq (by kernel_rfl) ?_
        refine sem_region (by kernel_rfl) ?_
        refine evs_run 2 (by kernel_rfl) ?_
        refine evs_endS (by kernel_rfl) (fun τ hτ => ?_)
        refine th_normalS hτ ⟨[(2, (.ptr 500000 0)), (3, (.ptr 500001 0)), (8, (.ptr 8 0)), (9, (.ptr 9 0))], [(8, .box [(.row (.top 800008) 3)]), (9, .box [(vI (-1))]), (500000, .box [(.sl (List.map (cS (cS cI)) jobs))]), (500001, .box [(vI stations)]), (800008, .row 3 [] (List.map cI []))]⟩ (here (by kernel_rfl)) ?_
        refine sem_seq (by kernel_rfl) ?_
        refine sem_region (by kernel_rfl) ?_
        refine evs_run 1 (by kernel_rfl) ?_
        refine evs_endS (by kernel_rfl) (fun τ hτ => ?_)
        refine th_normalS hτ ⟨[(2, (.ptr 500000 0)), (3, (.ptr 500001 0)), (8, (.ptr 8 0)), (9, (.ptr 9 0)), (10, (.ptr 10 0))], [(8, .box [(.row (.top 800008) 3)]), (9, .box [(vI (-1))]), (10, .box [(.lit .nilFunc)]), (500000, .box [(.sl (List.map (cS (cS cI)) jobs))]), (500001, .box [(vI stations)]), (800008, .row 3 [] (List.map cI []))]⟩ (here (by kernel_rfl)) ?_
        refine sem_seq (by kernel_rfl) ?_
        refine sem_region (by kernel_rfl) ?_
        refine evs_run 2 (by kernel_rfl) ?_
        refine evs_endS (by kernel_rfl) (fun τ hτ => ?_)
        refine th_normalS hτ ⟨[(8, (.ptr 8 0)), (9, (.ptr 9 0)), (10, (.ptr 10 0))], [(8, .box [(.row (.top 800008) 3)]), (9, .box [(vI (-1))]), (10, .box [(.fn 63 [(.ptr 500000 0), (.ptr 500001 0), (.ptr 9 0), (.ptr 8 0), (.ptr 10 0)])]), (500000, .box [(.sl (List.map (cS (cS cI)) jobs))]), (500001, .box [(vI stations)]), (800008, .row 3 [] (List.map cI []))]⟩ (here (by kernel_rfl)) ?_
        refine sem_seq (by kernel_rfl) ?_
        refine sem_region (by kernel_rfl) ?_
        refine evs_run 1 (by kernel_rfl) ?_
        obtain ⟨r12, hr12, h⟩ := bindS h
        refine evs_callS [(1000000, 9), (1000001, 8), (300002, 800008), (1000003, 10), (1000004, 500000), (1000005, 500001)] [] [] (by kernel_rfl) (W.setup_Best_1_ok hr12) (by kernel_rfl) (by kernel_rfl) (.inl rfl) ?_
        refine evs_endS (by kernel_rfl) (fun τ hτ => ?_)
        refine th_normalS hτ ⟨[(8, (.ptr 8 0)), (9, (.ptr 9 0))], [(8, .box [(.sl (List.map cI r12.2))]), (9, .box [(vI r12.1)])]⟩ (here (by kernel_rfl)) ?_
        refine sem_seq (by kernel_rfl) ?_
        refine sem_drawN [] [] [] [] [] 3 (by kernel_rfl) (by kernel_rfl) (by kernel_rfl) ?_
        refine evd_run 3 (by kernel_rfl) ?_
        refine evd_end (by kernel_rfl) ?_
        refine evo_run 2 (by kernel_rfl) ?_
        refine evo_endS (by kernel_rfl) (fun τ hτ => ?_)
        refine th_normalS hτ ⟨[(4, (.sl (List.map cI r12.2))), (5, (vI r12.1)), (6, (vI 0))], []⟩ (here (by kernel_rfl)) ?_
        refine sem_retS (by kernel_rfl) (fun τ hτ => ?_)
        obtain rfl := Option.some.inj h
        exact rk_ret hτ [(4, (.sl (List.map cI r12.2))), (5, (vI r12.1)), (6, (vI 0))] (here (by kernel_rfl)) (by kernel_rfl)
theorem W.setup_mount_1_ok {x0 : Int} {r : Bool} (h : setup_mount_1 x0 = some r) : PC G.P 87 [(vI x0)] [] (vB r) [] := by
  refine pc_of G (fn := Try.f87) Try.func87 (by kernel_rfl) (by kernel_rfl) (by kernel_rfl) (by kernel_rfl) (by kernel_rfl) ?_
  refine sem_set ⟨[(0, (vI x0))], []⟩ (by kernel_rfl) ?_
  refine sem_seq (by kernel_rfl) ?_
  refine sem_region (by kernel_rfl) ?_
  refine evs_run 1 (by kernel_rfl) ?_
  refine evs_endS (by kernel_rfl) (fun τ hτ => ?_)
  refine th_normalS hτ ⟨[(0, (vI x0))], []⟩ (here (by kernel_rfl)) ?_
  refine sem_seq (by kernel_rfl) ?_
  refine sem_region (by kernel_rfl) ?_
  refine evs_run 3 (by kernel_rfl) ?_
  refine evs_endS (by kernel_rfl) (fun τ hτ => ?_)
  refine th_normalS hτ ⟨[(2, (vB (decide (x0 < 0))))], []⟩ (here (by kernel_rfl)) ?_
  refine sem_retS (by kernel_rfl) (fun τ hτ => ?_)
  obtain rfl := Option.some.inj h
  exact rk_ret hτ [(2, (vB (decide (x0 < 0))))] (here (by kernel_rfl)) (by kernel_rfl)
theorem W.slices_IndexFunc_Lint_int__setup_mount_1_ok {s0 : (List Int)} {r : Int} (h : slices_IndexFunc_Lint_int__setup_mount_1 s0 = some r) : PC G.P 86 [(.sl (List.map cI s0)), (.fn 87 [])] [] (vI r) [] := by
  refine pc_of G (fn := Try.f86) Try.func86 (by kernel_rfl) (by kernel_rfl) (by kernel_rfl) (by kernel_rfl) (by kernel_rfl) ?_
  refine sem_set ⟨[(0, (.sl (List.map cI s0))), (1, (.fn 87 []))], []⟩ (by kernel_rfl) ?_
  refine sem_seq (by kernel_rfl) ?_
  refine sem_region (by kernel_rfl) ?_
  refine evs_run 1 (by kernel_rfl) ?_
  refine evs_endS (by kernel_rfl) (fun τ hτ => ?_)
  refine th_normalS hτ ⟨[(0, (.sl (List.map cI s0))), (1, (.fn 87 []))], []⟩ (here (by kernel_rfl)) ?_
  refine sem_seq (by kernel_rfl) ?_
  refine sem_seq (by kernel_rfl) ?_
  refine sem_region (by kernel_rfl) ?_
  refine evs_run 1 (by kernel_rfl) ?_
  refine evs_op (st_len (c := cI) (l := s0) (x := (.sl (List.map cI s0))) (by kernel_rfl) (by kernel_rfl)) ?_
  refine evs_run 1 (by kernel_rfl) ?_
  refine evs_endS (by kernel_rfl) (fun τ hτ => ?_)
  refine th_normalS hτ ⟨[(0, (.sl (List.map cI s0))), (1, (.fn 87 [])), (7, (vI (s0.length : Int))), (8, (vI 0))], []⟩ (here (by kernel_rfl)) ?_
  refine sem_block (by kernel_rfl) ?_
  obtain ⟨x56, hx56, h⟩ := bindS h
  refine sem_loopS (fun (s39 : Int) => ⟨[(0, (.sl (List.map cI s0))), (1, (.fn 87 [])), (7, (vI (s0.length : Int))), (8, (vI s39))], []⟩) (fun (x56 : Int ⊕ Unit) => match x56 with | .inl j57 => (.ret, ⟨[(4, (vI j57))], []⟩) | .inr j58 => (.exit 0, ⟨[], []⟩)) (slices_IndexFunc_Lint_int__setup_mount_1_l1 s0) 0 x56 (by kernel_rfl) (here (by kernel_rfl)) hx56 ?_ ?_ ?_
  · intro s39 r h
    refine sem_seq (by kernel_rfl) ?_
    refine sem_region (by kernel_rfl) ?_
    refine evs_run 1 (by kernel_rfl) ?_
    refine evs_endS (by kernel_rfl) (fun τ hτ => ?_)
    refine th_normalS hτ ⟨[(0, (.sl (List.map cI s0))), (1, (.fn 87 [])), (7, (vI (s0.length : Int))), (8, (vI s39)), (9, (vB (decide (s39 < (s0.length : Int)))))], []⟩ (here (by kernel_rfl)) ?_
    refine sem_seq (by kernel_rfl) ?_
    refine sem_cond (decide (s39 < (s0.length : Int))) (by kernel_rfl) (by kernel_rfl) (fun hb => ?_) (fun hb => ?_)
    · replace h := iteT hb h
      refine sem_skipS (by kernel_rfl) (fun τ hτ => ?_)
      refine th_normalS hτ ⟨[(0, (.sl (List.map cI s0))), (1, (.fn 87 [])), (7, (vI (s0.length : Int))), (8, (vI s39))], []⟩ (here (by kernel_rfl)) ?_
      refine sem_seq (by kernel_rfl) ?_
      refine sem_block (by kernel_rfl) ?_
      refine sem_seq (by kernel_rfl) ?_
      refine sem_region (by kernel_rfl) ?_
      refine evs_run 2 (by kernel_rfl) ?_
      refine evs_endS (by kernel_rfl) (fun τ hτ => ?_)
      refine th_normalS hτ ⟨[(0, (.sl (List.map cI s0))), (1, (.fn 87 [])), (5, (vI s39)), (7, (vI (s0.length : Int))), (8, (vI s39))], []⟩ (here (by kernel_rfl)) ?_
      refine sem_seq (by kernel_rfl) ?_
      refine sem_region (by kernel_rfl) ?_
      refine evs_run 3 (by kernel_rfl) ?_
      obtain ⟨x54, hx54, h⟩ := bindS h
      refine evs_op (st_idx (c := cI) (l := s0) (i := s39) (kd := .i64) (sz := 1) (by kernel_rfl) hx54 rfl) ?_
      refine evs_run 1 (by kernel_rfl) ?_
      obtain ⟨r55, hr55, h⟩ := bindS h
      refine evs_callP [] (by kernel_rfl) (W.setup_mount_1_ok hr55) (by kernel_rfl) (.inl rfl) (by kernel_rfl) ?_
      refine evs_endS (by kernel_rfl) (fun τ hτ => ?_)
      refine th_normalS hτ ⟨[(0, (.sl (List.map cI s0))), (1, (.fn 87 [])), (5, (vI s39)), (7, (vI (s0.length : Int))), (8, (vI s39)), (16, (vB r55))], []⟩ (here (by kernel_rfl)) ?_
      refine sem_cond r55 (by kernel_rfl) (by kernel_rfl) (fun hb => ?_) (fun hb => ?_)
      · replace h := iteT hb h
        refine sem_seq (by kernel_rfl) ?_
        refine sem_region (by kernel_rfl) ?_
        refine evs_run 2 (by kernel_rfl) ?_
        refine evs_endS (by kernel_rfl) (fun τ hτ => ?_)
        refine th_normalS hτ ⟨[(4, (vI s39))], []⟩ (here (by kernel_rfl)) ?_
        refine sem_retS (by kernel_rfl) (fun τ hτ => ?_)
        refine bl_ret ?_
        refine th_ret ?_
        obtain rfl := Option.some.inj h
        exact lk_outS hτ rfl (here (by kernel_rfl))
      · replace h := iteF hb h
        refine sem_skipS (by kernel_rfl) (fun τ hτ => ?_)
        refine bl_normal ?_
        refine th_normalS hτ ⟨[(0, (.sl (List.map cI s0))), (1, (.fn 87 [])), (7, (vI (s0.length : Int))), (8, (vI s39))], []⟩ (here (by kernel_rfl)) ?_
        refine sem_region (by kernel_rfl) ?_
        refine evs_run 2 (by kernel_rfl) ?_
        refine evs_endS (by kernel_rfl) (fun τ hτ => ?_)
        obtain rfl := Option.some.inj h
        exact lk_nextS hτ (here (by kernel_rfl))
    · replace h := iteF hb h
      refine sem_exitS 0 (by kernel_rfl) rfl (fun τ hτ => ?_)
      refine th_exit ?_
      obtain rfl := Option.some.inj h
      exact lk_outS hτ rfl (here (by kernel_rfl))
  · intro x
    rcases x with _ | _ <;> rfl
  · intro τ hτ
    rcases x56 with j57 | j58
    · refine bl_ret ?_
      refine th_ret ?_
      obtain rfl := Option.some.inj h
      exact rk_ret hτ [(4, (vI j57))] (here (by kernel_rfl)) (by kernel_rfl)
    · refine bl_hit (by kernel_rfl) ?_
      refine th_normalS hτ ⟨[], []⟩ (here (by kernel_rfl)) ?_
      refine sem_seq (by kernel_rfl) ?_
      refine sem_region (by kernel_rfl) ?_
      refine evs_run 1 (by kernel_rfl) ?_
      refine evs_endS (by kernel_rfl) (fun τ hτ => ?_)
      refine th_normalS hτ ⟨[(4, (vI (-1)))], []⟩ (here (by kernel_rfl)) ?_
      refine sem_retS (by kernel_rfl) (fun τ hτ => ?_)
      obtain rfl := Option.some.inj h
      exact rk_ret hτ [(4, (vI (-1)))] (here (by kernel_rfl)) (by kernel_rfl)
theorem W.setup_mount_2_ok {x0 : Int} {a_0 : Int} {r : Bool} (h : setup_mount_2 x0 a_0 = some r) : PC G.P 88 [(vI x0), (.vptr [(vI a_0)] 0)] [] (vB r) [] := by
  refine pc_of G (fn := Try.f88) Try.func88 (by kernel_rfl) (by kernel_rfl) (by kernel_rfl) (by kernel_rfl) (by kernel_rfl) ?_
  refine sem_set ⟨[(0, (vI x0)), (1, (.vptr [(vI a_0)] 0))], []⟩ (by kernel_rfl) ?_
  refine sem_seq (by kernel_rfl) ?_
  refine sem_region (by kernel_rfl) ?_
  refine evs_run 1 (by kernel_rfl) ?_
  refine evs_endS (by kernel_rfl) (fun τ hτ => ?_)
  refine th_normalS hτ ⟨[(0, (vI x0)), (1, (.vptr [(vI a_0)] 0))], []⟩ (here (by kernel_rfl)) ?_
  refine sem_seq (by kernel_rfl) ?_
  refine sem_region (by kernel_rfl) ?_
  refine evs_run 2 (by kernel_rfl) ?_
  obtain ⟨hb, h⟩ := iteN h
  refine evs_op (st_shr (a := a_0) (b := x0) (kd := .i64) (k2 := .i64) (by kernel_rfl) (of_decide_eq_true hb)) ?_
  refine evs_run 3 (by kernel_rfl) ?_
  refine evs_endS (by kernel_rfl) (fun τ hτ => ?_)
  refine th_normalS hτ ⟨[(3, (vB ((kand .i64 (Int.fdiv a_0 (2 ^ (min (Int.toNat x0) 64))) 1) == 0)))], []⟩ (here (by kernel_rfl)) ?_
  refine sem_retS (by kernel_rfl) (fun τ hτ => ?_)
  obtain rfl := Option.some.inj h
  exact rk_ret hτ [(3, (vB ((kand .i64 (Int.fdiv a_0 (2 ^ (min (Int.toNat x0) 64))) 1) == 0)))] (here (by kernel_rfl)) (by kernel_rfl)
theorem W.slices_IndexFunc_Lint_int__setup_mount_2_ok {s0 : (List Int)} {f_0_0 : Int} {r : Int} (h : slices_IndexFunc_Lint_int__setup_mount_2 s0 f_0_0 = some r) : PC G.P 86 [(.sl (List.map cI s0)), (.fn 88 [(.vptr [(vI f_0_0)] 0)])] [] (vI r) [] := by
  refine pc_of G (fn := Try.f86) Try.func86 (by kernel_rfl) (by kernel_rfl) (by kernel_rfl) (by kernel_rfl) (by kernel_rfl) ?_
  refine sem_set ⟨[(0, (.sl (List.map cI s0))), (1, (.fn 88 [(.vptr [(vI f_0_0)] 0)]))], []⟩ (by kernel_rfl) ?_
  refine sem_seq (by kernel_rfl) ?_
  refine sem_region (by kernel_rfl) ?_
  refine evs_run 1 (by kernel_rfl) ?_
  refine evs_endS (by kernel_rfl) (fun τ hτ => ?_)
  refine th_normalS hτ ⟨[(0, (.sl (List.map cI s0))), (1, (.fn 88 [(.vptr [(vI f_0_0)] 0)]))], []⟩ (here (by kernel_rfl)) ?_
  refine sem_seq (by kernel_rfl) ?_
  refine sem_seq (by kernel_rfl) ?_
  refine sem_region (by kernel_rfl) ?_
  refine evs_run 1 (by kernel_rfl) ?_
  refine evs_op (st_len (c := cI) (l := s0) (x := (.sl (List.map cI s0))) (by kernel_rfl) (by kernel_rfl)) ?_
  refine evs_run 1 (by kernel_rfl) ?_
  refine evs_endS (by kernel_rfl) (fun τ hτ => ?_)
  refine th_normalS hτ ⟨[(0, (.sl (List.map cI s0))), (1, (.fn 88 [(.vptr [(vI f_0_0)] 0)])), (7, (vI (s0.length : Int))), (8, (vI 0))], []⟩ (here (by kernel_rfl)) ?_
  refine sem_block (by kernel_rfl) ?_
  obtain ⟨x56, hx56, h⟩ := bindS h
  refine sem_loopS (fun (s39 : Int) => ⟨[(0, (.sl (List.map cI s0))), (1, (.fn 88 [(.vptr [(vI f_0_0)] 0)])), (7, (vI (s0.length : Int))), (8, (vI s39))], []⟩) (fun (x56 : Int ⊕ Unit) => match x56 with | .inl j57 => (.ret, ⟨[(4, (vI j57))], []⟩) | .inr j58 => (.exit 0, ⟨[], []⟩)) (slices_IndexFunc_Lint_int__setup_mount_2_l1 s0 f_0_0) 0 x56 (by kernel_rfl) (here (by kernel_rfl)) hx56 ?_ ?_ ?_
  · intro s39 r h
    refine sem_seq (by kernel_rfl) ?_
    refine sem_region (by kernel_rfl) ?_
    refine evs_run 1 (by kernel_rfl) ?_
    refine evs_endS (by kernel_rfl) (fun τ hτ => ?_)
    refine th_normalS hτ ⟨[(0, (.sl (List.map cI s0))), (1, (.fn 88 [(.vptr [(vI f_0_0)] 0)])), (7, (vI (s0.length : Int))), (8, (vI s39)), (9, (vB (decide (s39 < (s0.length : Int)))))], []⟩ (here (by kernel_rfl)) ?_
    refine sem_seq (by kernel_rfl) ?_
    refine sem_cond (decide (s39 < (s0.length : Int))) (by kernel_rfl) (by kernel_rfl) (fun hb => ?_) (fun hb => ?_)
    · replace h := iteT hb h
      refine sem_skipS (by kernel_rfl) (fun τ hτ => ?_)
      refine th_normalS hτ ⟨[(0, (.sl (List.map cI s0))), (1, (.fn 88 [(.vptr [(vI f_0_0)] 0)])), (7, (vI (s0.length : Int))), (8, (vI s39))], []⟩ (here (by kernel_rfl)) ?_
      refine sem_seq (by kernel_rfl) ?_
      refine sem_block (by kernel_rfl) ?_
      refine sem_seq (by kernel_rfl) ?_
      refine sem_region (by kernel_rfl) ?_
      refine evs_run 2 (by kernel_rfl) ?_
      refine evs_endS (by kernel_rfl) (fun τ hτ => ?_)
      refine th_normalS hτ ⟨[(0, (.sl (List.map cI s0))), (1, (.fn 88 [(.vptr [(vI f_0_0)] 0)])), (5, (vI s39)), (7, (vI (s0.length : Int))), (8, (vI s39))], []⟩ (here (by kernel_rfl)) ?_
      refine sem_seq (by kernel_rfl) ?_
      refine sem_region (by kernel_rfl) ?_
      refine evs_run 3 (by kernel_rfl) ?_
      obtain ⟨x54, hx54, h⟩ := bindS h
      refine evs_op (st_idx (c := cI) (l := s0) (i := s39) (kd := .i64) (sz := 1) (by kernel_rfl) hx54 rfl) ?_
      refine evs_run 1 (by kernel_rfl) ?_
      obtain ⟨r55, hr55, h⟩ := bindS h
      refine evs_callP [] (by kernel_rfl) (W.setup_mount_2_ok hr55) (by kernel_rfl) (.inl rfl) (by kernel_rfl) ?_
      refine evs_endS (by kernel_rfl) (fun τ hτ => ?_)
      refine th_normalS hτ ⟨[(0, (.sl (List.map cI s0))), (1, (.fn 88 [(.vptr [(vI f_0_0)] 0)])), (5, (vI s39)), (7, (vI (s0.length : Int))), (8, (vI s39)), (16, (vB r55))], []⟩ (here (by kernel_rfl)) ?_
      refine sem_cond r55 (by kernel_rfl) (by kernel_rfl) (fun hb => ?_) (fun hb => ?_)
      · replace h := iteT hb h
        refine sem_seq (by kernel_rfl) ?_
        refine sem_region (by kernel_rfl) ?_
        refine evs_run 2 (by kernel_rfl) ?_
        refine evs_endS (by kernel_rfl) (fun τ hτ => ?_)
        refine th_normalS hτ ⟨[(4, (vI s39))], []⟩ (here (by kernel_rfl)) ?_
        refine sem_retS (by kernel_rfl) (fun τ hτ => ?_)
        refine bl_ret ?_
        refine th_ret ?_
        obtain rfl := Option.some.inj h
        exact lk_outS hτ rfl (here (by kernel_rfl))
      · replace h := iteF hb h
        refine sem_skipS (by kernel_rfl) (fun τ hτ => ?_)
        refine bl_normal ?_
        refine th_normalS hτ ⟨[(0, (.sl (List.map cI s0))), (1, (.fn 88 [(.vptr [(vI f_0_0)] 0)])), (7, (vI (s0.length : Int))), (8, (vI s39))], []⟩ (here (by kernel_rfl)) ?_
        refine sem_region (by kernel_rfl) ?_
        refine evs_run 2 (by kernel_rfl) ?_
        refine evs_endS (by kernel_rfl) (fun τ hτ => ?_)
        obtain rfl := Option.some.inj h
        exact lk_nextS hτ (here (by kernel_rfl))
    · replace h := iteF hb h
      refine sem_exitS 0 (by kernel_rfl) rfl (fun τ hτ => ?_)
      refine th_exit ?_
      obtain rfl := Option.some.inj h
      exact lk_outS hτ rfl (here (by kernel_rfl))
  · intro x
    rcases x with _ | _ <;> rfl
  · intro τ hτ
    rcases x56 with j57 | j58
    · refine bl_ret ?_
      refine th_ret ?_
      obtain rfl := Option.some.inj h
      exact rk_ret hτ [(4, (vI j57))] (here (by kernel_rfl)) (by kernel_rfl)
    · refine bl_hit (by kernel_rfl) ?_
      refine th_normalS hτ ⟨[], []⟩ (here (by kernel_rfl)) ?_
      refine sem_seq (by kernel_rfl) ?_
      refine sem_region (by kernel_rfl) ?_
      refine evs_run 1 (by kernel_rfl) ?_
      refine evs_endS (by kernel_rfl) (fun τ hτ => ?_)
      refine th_normalS hτ ⟨[(4, (vI (-1)))], []⟩ (here (by kernel_rfl)) ?_
      refine sem_retS (by kernel_rfl) (fun τ hτ => ?_)
      obtain rfl := Option.some.inj h
      exact rk_ret hτ [(4, (vI (-1)))] (here (by kernel_rfl)) (by kernel_rfl)
theorem W.setup_mount_ok {set1 : Int} {step : Int} {h0 : (List Int)} {r : (List Change) × (List Int)} (h : setup_mount set1 step h0 = some r) : PC G.P 75 [(.row (.top 1000000) 3), (vI set1), (vI step)] [(1000000, .row 3 [] (List.map cI h0))] (.row (.top 0) 95) [(0, .row 95 [] (List.map c_Change r.1)), (1000000, .row 3 [] (List.map cI r.2))] := by
  refine pc_of G (fn := Try.f75) Try.func75 (by kernel_rfl) (by kernel_rfl) (by kernel_rfl) (by kernel_rfl) (by kernel_rfl) ?_
  refine sem_set ⟨[(0, (.row (.top 1000000) 3)), (1, (vI set1)), (2, (vI step))], [(1000000, .row 3 [] (List.map cI h0))]⟩ (by kernel_rfl) ?_
  refine sem_seq (by kernel_rfl) ?_
  refine sem_region (by kernel_rfl) ?_
  refine evs_run 2 (by kernel_rfl) ?_
  refine evs_endS (by kernel_rfl) (fun τ hτ => ?_)
  refine th_normalS hτ ⟨[(0, (.row (.top 1000000) 3)), (2, (vI step)), (4, (.ptr 4 0))], [(4, .box [(vI set1)]), (1000000, .row 3 [] (List.map cI h0))]⟩ (here (by kernel_rfl)) ?_
  refine sem_seq (by kernel_rfl) ?_
  refine sem_region (by kernel_rfl) ?_
  refine evs_run 1 (by kernel_rfl) ?_
  refine evs_endS (by kernel_rfl) (fun τ hτ => ?_)
  refine th_normalS hτ ⟨[(0, (.row (.top 1000000) 3)), (2, (vI step)), (4, (.ptr 4 0)), (7, (.row (.top 7) 95))], [(4, .box [(vI set1)]), (7, .row 95 [] (List.map c_Change [])), (1000000, .row 3 [] (List.map cI h0))]⟩ (here (by kernel_rfl)) ?_
  refine sem_seq (by kernel_rfl) ?_
  refine sem_seq (by kernel_rfl) ?_
  refine sem_region (by kernel_rfl) ?_
  refine evs_run 1 (by kernel_rfl) ?_
  refine evs_endS (by kernel_rfl) (fun τ hτ => ?_)
  refine th_normalS hτ ⟨[(0, (.row (.top 1000000) 3)), (2, (vI step)), (4, (.ptr 4 0)), (7, (.row (.top 7) 95)), (10, (vI 0))], [(4, .box [(vI set1)]), (7, .row 95 [] (List.map c_Change [])), (1000000, .row 3 [] (List.map cI h0))]⟩ (here (by kernel_rfl)) ?_
  refine sem_block (by kernel_rfl) ?_
  obtain ⟨x216, hx216, h⟩ := bindS h
  refine sem_loopS (fun (s145 : Int × (List Change) × (List Int)) => ⟨[(0, (.row (.top 1000000) 3)), (2, (vI step)), (4, (.ptr 500000 0)), (7, (.row (.top 500001) 95)), (10, (vI s145.1))], [(500000, .box [(vI set1)]), (500001, .row 95 [] (List.map c_Change s145.2.1)), (1000000, .row 3 [] (List.map cI s145.2.2))]⟩) (fun (x216 : (List Change) × (List Int)) => (.exit 0, ⟨[(7, (.row (.top 500000) 95))], [(500000, .row 95 [] (List.map c_Change x216.1)), (1000000, .row 3 [] (List.map cI x216.2))]⟩)) (setup_mount_l3 set1 step) (0, [], h0) x216 (by kernel_rfl) (subR_prep [] [(4, 500000), (7, 500001), (1000000, 1000000)] (by kernel_rfl) rfl rfl (by kernel_rfl)) hx216 ?_ ?_ ?_
  · intro s145 r h
    refine sem_seq (by kernel_rfl) ?_
    refine sem_region (by kernel_rfl) ?_
    refine evs_run 1 (by kernel_rfl) ?_
    refine evs_endS (by kernel_rfl) (fun τ hτ => ?_)
    refine th_normalS hτ ⟨[(0, (.row (.top 1000000) 3)), (2, (vI step)), (4, (.ptr 500000 0)), (7, (.row (.top 500001) 95)), (10, (vI s145.1)), (11, (vB (decide (s145.1 < 9))))], [(500000, .box [(vI set1)]), (500001, .row 95 [] (List.map c_Change s145.2.1)), (1000000, .row 3 [] (List.map cI s145.2.2))]⟩ (here (by kernel_rfl)) ?_
    refine sem_seq (by kernel_rfl) ?_
    refine sem_cond (decide (s145.1 < 9)) (by kernel_rfl) (by kernel_rfl) (fun hb => ?_) (fun hb => ?_)
    · replace h := iteT hb h
      refine sem_skipS (by kernel_rfl) (fun τ hτ => ?_)
      refine th_normalS hτ ⟨[(0, (.row (.top 1000000) 3)), (2, (vI step)), (4, (.ptr 500000 0)), (7, (.row (.top 500001) 95)), (10, (vI s145.1))], [(500000, .box [(vI set1)]), (500001, .row 95 [] (List.map c_Change s145.2.1)), (1000000, .row 3 [] (List.map cI s145.2.2))]⟩ (here (by kernel_rfl)) ?_
      refine sem_seqJ (fun (j198 : (List Change) × (List Int)) => ⟨[(0, (.row (.top 1000000) 3)), (2, (vI step)), (4, (.ptr 500000 0)), (7, (.row (.top 500001) 95)), (10, (vI s145.1))], [(500000, .box [(vI set1)]), (500001, .row 95 [] (List.map c_Change j198.1)), (1000000, .row 3 [] (List.map cI j198.2))]⟩) (setup_mount_k1 s145) r (by kernel_rfl) (fun j198 h => ?_) ?_
      · refine sem_region (by kernel_rfl) ?_
        refine evs_run 2 (by kernel_rfl) ?_
        refine evs_endS (by kernel_rfl) (fun τ hτ => ?_)
        obtain rfl := Option.some.inj h
        exact lk_nextS hτ (here (by kernel_rfl))
      refine sem_block (by kernel_rfl) ?_
      refine sem_seq (by kernel_rfl) ?_
      refine sem_region (by kernel_rfl) ?_
      refine evs_run 2 (by kernel_rfl) ?_
      refine evs_endS (by kernel_rfl) (fun τ hτ => ?_)
      refine th_normalS hτ ⟨[(0, (.row (.top 1000000) 3)), (2, (vI step)), (4, (.ptr 500000 0)), (7, (.row (.top 500001) 95)), (8, (vI s145.1)), (10, (vI s145.1))], [(500000, .box [(vI set1)]), (500001, .row 95 [] (List.map c_Change s145.2.1)), (1000000, .row 3 [] (List.map cI s145.2.2))]⟩ (here (by kernel_rfl)) ?_
      refine sem_seq (by kernel_rfl) ?_
      refine sem_seq (by kernel_rfl) ?_
      obtain ⟨j203, hj203, h⟩ := bindS h
      refine sem_regionC ⟨[(0, (.row (.top 1000000) 3)), (2, (vI step)), (4, (.ptr 500000 0)), (7, (.row (.top 500001) 95)), (8, (vI s145.1)), (10, (vI s145.1)), (22, (vB j203))], [(500000, .box [(vI set1)]), (500001, .row 95 [] (List.map c_Change s145.2.1)), (1000000, .row 3 [] (List.map cI s145.2.2))]⟩ (by kernel_rfl) ?_ (fun τ hτ => ?_)
      · replace h := hj203
        refine evs_run 2 (by kernel_rfl) ?_
        obtain ⟨hb, h⟩ := iteN h
        refine evs_op (st_shr (a := set1) (b := s145.1) (kd := .i64) (k2 := .i64) (by kernel_rfl) (of_decide_eq_true hb)) ?_
        refine evs_run 3 (by kernel_rfl) ?_
        refine evs_split ((kand .i64 (Int.fdiv set1 (2 ^ (min (Int.toNat s145.1) 64))) 1) == 0) (fun b0 => ⟨[(0, (.row (.top 1000000) 3)), (2, (vI step)), (4, (.ptr 500000 0)), (7, (.row (.top 500001) 95)), (8, (vI s145.1)), (10, (vI s145.1)), (18, (vB b0))], [(500000, .box [(vI set1)]), (500001, .row 95 [] (List.map c_Change s145.2.1)), (1000000, .row 3 [] (List.map cI s145.2.2))]⟩) (by kernel_rfl) (fun hb => ?_) (fun hb => ?_)
        · replace h := iteT hb h
          refine evs_run 4 (by kernel_rfl) ?_
          refine evs_endS (by kernel_rfl) (fun τ hτ => ?_)
          obtain rfl := Option.some.inj h
          exact leafC hτ (here (by kernel_rfl))
        · replace h := iteF hb h
          refine evs_run 2 (by kernel_rfl) ?_
          obtain ⟨r204, hr204, h⟩ := bindS h
          refine evs_callP [1000000] (by kernel_rfl) (W.slices_Contains_Lint_int_ok hr204) (by kernel_rfl) (.inr rfl) (by kernel_rfl) ?_
          refine evs_run 1 (by kernel_rfl) ?_
          refine evs_endS (by kernel_rfl) (fun τ hτ => ?_)
          obtain rfl := Option.some.inj h
          exact leafC hτ (here (by kernel_rfl))
      refine th_normalS hτ ⟨[(0, (.row (.top 1000000) 3)), (2, (vI step)), (4, (.ptr 500000 0)), (7, (.row (.top 500001) 95)), (8, (vI s145.1)), (10, (vI s145.1)), (22, (vB j203))], [(500000, .box [(vI set1)]), (500001, .row 95 [] (List.map c_Change s145.2.1)), (1000000, .row 3 [] (List.map cI s145.2.2))]⟩ (here (by kernel_rfl)) ?_
      refine sem_cond j203 (by kernel_rfl) (by kernel_rfl) (fun hb => ?_) (fun hb => ?_)
      · replace h := iteT hb h
        refine sem_exitS 1 (by kernel_rfl) rfl (fun τ hτ => ?_)
        refine th_exit ?_
        refine bl_hit (by kernel_rfl) ?_
        exact jk_normal (s145.2.1, s145.2.2) h hτ (here (by kernel_rfl))
      · replace h := iteF hb h
        refine sem_skipS (by kernel_rfl) (fun τ hτ => ?_)
        refine th_normalS hτ ⟨[(0, (.row (.top 1000000) 3)), (2, (vI step)), (4, (.ptr 500000 0)), (7, (.row (.top 500001) 95)), (8, (vI s145.1)), (10, (vI s145.1))], [(500000, .box [(vI set1)]), (500001, .row 95 [] (List.map c_Change s145.2.1)), (1000000, .row 3 [] (List.map cI s145.2.2))]⟩ (here (by kernel_rfl)) ?_
        refine sem_seq (by kernel_rfl) ?_
        refine sem_region (by kernel_rfl) ?_
        refine evs_run 1 (by kernel_rfl) ?_
        obtain ⟨r206, hr206, h⟩ := bindS h
        refine evs_callP [1000000] (by kernel_rfl) (W.slices_IndexFunc_Lint_int__setup_mount_1_ok hr206) (by kernel_rfl) (.inr rfl) (by kernel_rfl) ?_
        refine evs_run 1 (by kernel_rfl) ?_
        refine evs_endS (by kernel_rfl) (fun τ hτ => ?_)
        refine th_normalS hτ ⟨[(0, (.row (.top 1000000) 3)), (2, (vI step)), (4, (.ptr 500000 0)), (7, (.row (.top 500001) 95)), (8, (vI s145.1)), (9, (vI r206)), (10, (vI s145.1))], [(500000, .box [(vI set1)]), (500001, .row 95 [] (List.map c_Change s145.2.1)), (1000000, .row 3 [] (List.map cI s145.2.2))]⟩ (here (by kernel_rfl)) ?_
        refine sem_seqJ (fun (j209 : Int) => ⟨[(0, (.row (.top 1000000) 3)), (2, (vI step)), (4, (.ptr 500000 0)), (7, (.row (.top 500001) 95)), (8, (vI s145.1)), (9, (vI j209)), (10, (vI s145.1))], [(500000, .box [(vI set1)]), (500001, .row 95 [] (List.map c_Change s145.2.1)), (1000000, .row 3 [] (List.map cI s145.2.2))]⟩) (setup_mount_k2 step s145) r (by kernel_rfl) (fun j209 h => ?_) ?_
        · refine sem_seq (by kernel_rfl) ?_
          refine sem_region (by kernel_rfl) ?_
          refine evs_run 3 (by kernel_rfl) ?_
          obtain ⟨x211, hx211, h⟩ := bindS h
          refine evs_op (st_idxO (c := cI) (l := s145.2.2) (i := j209) (kd := .i64) (kk := (.top 1000000)) (e := 3) (sz := 1) (by kernel_rfl) (by kernel_rfl) hx211 rfl) ?_
          refine evs_op (st_stO (c := cI) (l := s145.2.2) (i := (Int.toNat j209)) (x := x211) (x' := s145.1) (v := (vI s145.1)) (agg := false) (sz := 1) (kk := (.top 1000000)) (e := 3) (off := 0) (J := []) (o := .row 3 [] (List.map cI (List.set s145.2.2 (Int.toNat j209) s145.1))) (by kernel_rfl) (by kernel_rfl) (by kernel_rfl) ((idxS hx211).2) (by kernel_rfl) (by kernel_rfl) (by kernel_rfl)) ?_
          refine evs_endS (by kernel_rfl) (fun τ hτ => ?_)
          refine th_normalS hτ ⟨[(0, (.row (.top 1000000) 3)), (2, (vI step)), (4, (.ptr 500000 0)), (7, (.row (.top 500001) 95)), (8, (vI s145.1)), (9, (vI j209)), (10, (vI s145.1))], [(500000, .box [(vI set1)]), (500001, .row 95 [] (List.map c_Change s145.2.1)), (1000000, .row 3 [] (List.map cI (List.set s145.2.2 (Int.toNat j209) s145.1)))]⟩ (here (by kernel_rfl)) ?_
          refine sem_region (by kernel_rfl) ?_
          refine evs_run 6 (by kernel_rfl) ?_
          obtain ⟨l213, hl213, h⟩ := bindS h
          refine evs_op (st_app (c := c_Change) (l := s145.2.1) (l2 := [(Change.mk step j209 s145.1)]) (x := (.sl (List.map c_Change [(Change.mk step j209 s145.1)]))) (g := 500001) (e := 95) (sz := 3) (d := 40) (by kernel_rfl) (by kernel_rfl) (by kernel_rfl) (by kernel_rfl) (fun _ => rfl) rfl hl213) ?_
          refine evs_run 1 (by kernel_rfl) ?_
          refine evs_endS (by kernel_rfl) (fun τ hτ => ?_)
          refine bl_normal ?_
          exact jk_normal (l213, (List.set s145.2.2 (Int.toNat j209) s145.1)) h hτ (here (by kernel_rfl))
        refine sem_seq (by kernel_rfl) ?_
        refine sem_region (by kernel_rfl) ?_
        refine evs_run 2 (by kernel_rfl) ?_
        refine evs_endS (by kernel_rfl) (fun τ hτ => ?_)
        refine th_normalS hτ ⟨[(0, (.row (.top 1000000) 3)), (2, (vI step)), (4, (.ptr 500000 0)), (7, (.row (.top 500001) 95)), (8, (vI s145.1)), (9, (vI r206)), (10, (vI s145.1)), (26, (vB (decide (r206 < 0))))], [(500000, .box [(vI set1)]), (500001, .row 95 [] (List.map c_Change s145.2.1)), (1000000, .row 3 [] (List.map cI s145.2.2))]⟩ (here (by kernel_rfl)) ?_
        refine sem_cond (decide (r206 < 0)) (by kernel_rfl) (by kernel_rfl) (fun hb => ?_) (fun hb => ?_)
        · replace h := iteT hb h
          refine sem_region (by kernel_rfl) ?_
          refine evs_run 2 (by kernel_rfl) ?_
          obtain ⟨r215, hr215, h⟩ := bindS h
          refine evs_callP [1000000, 500000] (by kernel_rfl) (W.slices_IndexFunc_Lint_int__setup_mount_2_ok hr215) (by kernel_rfl) (.inr rfl) (by kernel_rfl) ?_
          refine evs_run 1 (by kernel_rfl) ?_
          refine evs_endS (by kernel_rfl) (fun τ hτ => ?_)
          exact jk_normal r215 h hτ (here (by kernel_rfl))
        · replace h := iteF hb h
          refine sem_skipS (by kernel_rfl) (fun τ hτ => ?_)
          exact jk_normal r206 h hτ (here (by kernel_rfl))
    · replace h := iteF hb h
      refine sem_exitS 0 (by kernel_rfl) rfl (fun τ hτ => ?_)
      refine th_exit ?_
      obtain rfl := Option.some.inj h
      exact lk_outS hτ rfl (subR_prep [] [(500001, 500000), (1000000, 1000000)] (by kernel_rfl) rfl rfl (by kernel_rfl))
  · intro x
    rfl
  · intro τ hτ
    refine bl_hit (by kernel_rfl) ?_
    refine th_normalS hτ ⟨[(7, (.row (.top 500000) 95))], [(500000, .row 95 [] (List.map c_Change x216.1)), (1000000, .row 3 [] (List.map cI x216.2))]⟩ (here (by kernel_rfl)) ?_
    refine sem_seq (by kernel_rfl) ?_
    refine sem_region (by kernel_rfl) ?_
    refine evs_run 2 (by kernel_rfl) ?_
    refine evs_endS (by kernel_rfl) (fun τ hτ => ?_)
    refine th_normalS hτ ⟨[(6, (.row (.top 500000) 95))], [(500000, .row 95 [] (List.map c_Change x216.1)), (1000000, .row 3 [] (List.map cI x216.2))]⟩ (here (by kernel_rfl)) ?_
    refine sem_retS (by kernel_rfl) (fun τ hτ => ?_)
    obtain rfl := Option.some.inj h
    exact rk_ret hτ [(6, (.row (.top 0) 95))] (subR_prep [] [(500000, 0), (1000000, 1000000)] (by kernel_rfl) rfl rfl (by kernel_rfl)) (by kernel_rfl)
theorem W.setup_Plan_ok {needs : (List (List Int))} {stations : Int} {r : (List Change) × Int} (h : setup_Plan needs stations = some r) : PC G.P 39 [(.sl (List.map (cS cI) needs)), (vI stations)] [] (.tup [(.row (.top 0) 95), (vI r.2)]) [(0, .row 95 [] (List.map c_Change r.1))] := by
  refine pc_of G (fn := Try.f39) Try.func39 (by kernel_rfl) (by kernel_rfl) (by kernel_rfl) (by kernel_rfl) (by kernel_rfl) ?_
  refine sem_set ⟨[(0, (.sl (List.map (cS cI) needs))), (1, (vI stations))], []⟩ (by kernel_rfl) ?_
  refine sem_seq (by kernel_rfl) ?_
  refine sem_region (by kernel_rfl) ?_
  refine evs_run 2 (by kernel_rfl) ?_
  refine evs_endS (by kernel_rfl) (fun τ hτ => ?_)
  refine th_normalS hτ ⟨[(0, (.sl (List.map (cS cI) needs))), (1, (vI stations))], []⟩ (here (by kernel_rfl)) ?_
  refine sem_seq (by kernel_rfl) ?_
  refine sem_seq (by kernel_rfl) ?_
  refine sem_region (by kernel_rfl) ?_
  refine evs_run 2 (by kernel_rfl) ?_
  obtain ⟨r4, hr4, h⟩ := bindS h
  refine evs_callP [] (by kernel_rfl) (W.setup_check_ok hr4) (by kernel_rfl) (.inl rfl) (by kernel_rfl) ?_
  refine evs_run 1 (by kernel_rfl) ?_
  refine evs_endS (by kernel_rfl) (fun τ hτ => ?_)
  refine th_normalS hτ ⟨[(0, (.sl (List.map (cS cI) needs))), (1, (vI stations)), (6, (vI r4))], []⟩ (here (by kernel_rfl)) ?_
  refine sem_seq (by kernel_rfl) ?_
  refine sem_region (by kernel_rfl) ?_
  refine evs_run 2 (by kernel_rfl) ?_
  refine evs_endS (by kernel_rfl) (fun τ hτ => ?_)
  refine th_normalS hτ ⟨[(0, (.sl (List.map (cS cI) needs))), (1, (vI stations)), (6, (vI r4)), (18, (vB (r4 != 0)))], []⟩ (here (by kernel_rfl)) ?_
  refine sem_cond (r4 != 0) (by kernel_rfl) (by kernel_rfl) (fun hb => ?_) (fun hb => ?_)
  · replace h := iteT hb h
    refine sem_seq (by kernel_rfl) ?_
    refine sem_region (by kernel_rfl) ?_
    refine evs_run 3 (by kernel_rfl) ?_
    refine evs_endS (by kernel_rfl) (fun τ hτ => ?_)
    refine th_normalS hτ ⟨[(4, (.row (.top 4) 95)), (5, (vI r4))], [(4, .row 95 [] (List.map c_Change []))]⟩ (here (by kernel_rfl)) ?_
    refine sem_retS (by kernel_rfl) (fun τ hτ => ?_)
    refine th_ret ?_
    obtain rfl := Option.some.inj h
    exact rk_ret hτ [(4, (.row (.top 0) 95)), (5, (vI r4))] (subR_prep [] [(4, 0)] (by kernel_rfl) rfl rfl (by kernel_rfl)) (by kernel_rfl)
  · replace h := iteF hb h
    refine sem_skipS (by kernel_rfl) (fun τ hτ => ?_)
    refine th_normalS hτ ⟨[(0, (.sl (List.map (cS cI) needs))), (1, (vI stations))], []⟩ (here (by kernel_rfl)) ?_
    refine sem_seq (by kernel_rfl) ?_
    refine sem_region (by kernel_rfl) ?_
    refine evs_run 2 (by kernel_rfl) ?_
    obtain ⟨r6, hr6, h⟩ := bindS h
    refine evs_callS [] [(0, 700100)] [] (by kernel_rfl) (W.setup_stages_ok hr6) (by kernel_rfl) (by kernel_rfl) (.inl rfl) ?_
    refine evs_run 1 (by kernel_rfl) ?_
    refine evs_endS (by kernel_rfl) (fun τ hτ => ?_)
    refine th_normalS hτ ⟨[(1, (vI stations)), (7, (.row (.top 700100) 84))], [(700100, .row 84 [] (List.map c_setup_stage r6))]⟩ (here (by kernel_rfl)) ?_
    refine sem_seq (by kernel_rfl) ?_
    refine sem_region (by kernel_rfl) ?_
    refine evs_run 1 (by kernel_rfl) ?_
    refine evs_op (st_len (c := c_setup_stage) (l := r6) (x := (.row (.top 700100) 84)) (by kernel_rfl) (by kernel_rfl)) ?_
    obtain ⟨l8, hl8, h⟩ := bindS h
    refine evs_op (st_mk (c := cI) (z := 0) (n := (r6.length : Int)) (e := 3) (d := 25) (zs := [(vI 0)]) (k1 := .i64) (k2 := .i64) (by kernel_rfl) rfl hl8) ?_
    refine evs_run 1 (by kernel_rfl) ?_
    refine evs_endS (by kernel_rfl) (fun τ hτ => ?_)
    refine th_normalS hτ ⟨[(1, (vI stations)), (7, (.row (.top 700100) 84)), (8, (.row (.top 25) 3))], [(25, .row 3 [] (List.map cI l8)), (700100, .row 84 [] (List.map c_setup_stage r6))]⟩ (here (by kernel_rfl)) ?_
    refine sem_seq (by kernel_rfl) ?_
    refine sem_seq (by kernel_rfl) ?_
    refine sem_region (by kernel_rfl) ?_
    refine evs_run 1 (by kernel_rfl) ?_
    refine evs_op (st_len (c := c_setup_stage) (l := r6) (x := (.row (.top 700100) 84)) (by kernel_rfl) (by kernel_rfl)) ?_
    refine evs_run 2 (by kernel_rfl) ?_
    refine evs_endS (by kernel_rfl) (fun τ hτ => ?_)
    refine th_normalS hτ ⟨[(1, (vI stations)), (7, (.row (.top 700100) 84)), (8, (.row (.top 25) 3)), (9, (vI (isub (r6.length : Int) 1)))], [(25, .row 3 [] (List.map cI l8)), (700100, .row 84 [] (List.map c_setup_stage r6))]⟩ (here (by kernel_rfl)) ?_
    refine sem_block (by kernel_rfl) ?_
    obtain ⟨x200, hx200, h⟩ := bindS h
    refine sem_loopS (fun (s137 : Int × (List Int)) => ⟨[(1, (vI stations)), (7, (.row (.top 500000) 84)), (8, (.row (.top 500001) 3)), (9, (vI s137.1))], [(500000, .row 84 [] (List.map c_setup_stage r6)), (500001, .row 3 [] (List.map cI s137.2))]⟩) (fun (x200 : (List Int)) => (.exit 0, ⟨[(1, (vI stations)), (8, (.row (.top 500000) 3))], [(500000, .row 3 [] (List.map cI x200))]⟩)) (setup_Plan_l2 r6) ((isub (r6.length : Int) 1), l8) x200 (by kernel_rfl) (subR_prep [] [(25, 500001), (700100, 500000)] (by kernel_rfl) rfl rfl (by kernel_rfl)) hx200 ?_ ?_ ?_
    · intro s137 r h
      refine sem_seq (by kernel_rfl) ?_
      refine sem_seq (by kernel_rfl) ?_
      refine sem_region (by kernel_rfl) ?_
      refine evs_run 2 (by kernel_rfl) ?_
      refine evs_endS (by kernel_rfl) (fun τ hτ => ?_)
      refine th_normalS hτ ⟨[(1, (vI stations)), (7, (.row (.top 500000) 84)), (8, (.row (.top 500001) 3)), (9, (vI s137.1)), (30, (vB (decide (s137.1 ≥ 0))))], [(500000, .row 84 [] (List.map c_setup_stage r6)), (500001, .row 3 [] (List.map cI s137.2))]⟩ (here (by kernel_rfl)) ?_
      refine sem_cond (decide (s137.1 ≥ 0)) (by kernel_rfl) (by kernel_rfl) (fun hb => ?_) (fun hb => ?_)
      · replace h := iteT hb h
        refine sem_skipS (by kernel_rfl) (fun τ hτ => ?_)
        refine th_normalS hτ ⟨[(1, (vI stations)), (7, (.row (.top 500000) 84)), (8, (.row (.top 500001) 3)), (9, (vI s137.1))], [(500000, .row 84 [] (List.map c_setup_stage r6)), (500001, .row 3 [] (List.map cI s137.2))]⟩ (here (by kernel_rfl)) ?_
        refine sem_seqJ (fun (j184 : (List Int)) => ⟨[(1, (vI stations)), (7, (.row (.top 500000) 84)), (8, (.row (.top 500001) 3)), (9, (vI s137.1))], [(500000, .row 84 [] (List.map c_setup_stage r6)), (500001, .row 3 [] (List.map cI j184))]⟩) (setup_Plan_k1 s137) r (by kernel_rfl) (fun j184 h => ?_) ?_
        · refine sem_region (by kernel_rfl) ?_
          refine evs_run 3 (by kernel_rfl) ?_
          refine evs_endS (by kernel_rfl) (fun τ hτ => ?_)
          obtain rfl := Option.some.inj h
          exact lk_nextS hτ (here (by kernel_rfl))
        refine sem_block (by kernel_rfl) ?_
        refine sem_seq (by kernel_rfl) ?_
        refine sem_region (by kernel_rfl) ?_
        refine evs_run 2 (by kernel_rfl) ?_
        refine evs_op (st_len (c := c_setup_stage) (l := r6) (x := (.row (.top 500000) 84)) (by kernel_rfl) (by kernel_rfl)) ?_
        refine evs_run 2 (by kernel_rfl) ?_
        refine evs_endS (by kernel_rfl) (fun τ hτ => ?_)
        refine th_normalS hτ ⟨[(1, (vI stations)), (7, (.row (.top 500000) 84)), (8, (.row (.top 500001) 3)), (9, (vI s137.1)), (37, (vB (s137.1 == (isub (r6.length : Int) 1))))], [(500000, .row 84 [] (List.map c_setup_stage r6)), (500001, .row 3 [] (List.map cI s137.2))]⟩ (here (by kernel_rfl)) ?_
        refine sem_cond (s137.1 == (isub (r6.length : Int) 1)) (by kernel_rfl) (by kernel_rfl) (fun hb => ?_) (fun hb => ?_)
        · replace h := iteT hb h
          refine sem_region (by kernel_rfl) ?_
          refine evs_run 4 (by kernel_rfl) ?_
          obtain ⟨x188, hx188, h⟩ := bindS h
          refine evs_op (st_idxO (c := c_setup_stage) (l := r6) (i := s137.1) (kd := .i64) (kk := (.top 500000)) (e := 84) (sz := 2) (by kernel_rfl) (by kernel_rfl) hx188 rfl) ?_
          refine evs_op (st_ldO (c := c_setup_stage) (l := r6) (i := (Int.toNat s137.1)) (v := (.agg [(.fmap x188.changes), (.fmap x188.before)])) (agg := true) (sz := 2) (kk := (.top 500000)) (e := 84) (off := 0) (J := []) (by kernel_rfl) (by kernel_rfl) (by kernel_rfl) ((idxS hx188).2) (by kernel_rfl)) ?_
          obtain ⟨r189, hr189, h⟩ := bindS h
          refine evs_callP [] (by kernel_rfl) (W.setup_stage_best_ok hr189) (by kernel_rfl) (.inl rfl) (by kernel_rfl) ?_
          obtain ⟨x190, hx190, h⟩ := bindS h
          refine evs_op (st_idxO (c := cI) (l := s137.2) (i := s137.1) (kd := .i64) (kk := (.top 500001)) (e := 3) (sz := 1) (by kernel_rfl) (by kernel_rfl) hx190 rfl) ?_
          refine evs_op (st_stO (c := cI) (l := s137.2) (i := (Int.toNat s137.1)) (x := x190) (x' := r189) (v := (vI r189)) (agg := false) (sz := 1) (kk := (.top 500001)) (e := 3) (off := 0) (J := []) (o := .row 3 [] (List.map cI (List.set s137.2 (Int.toNat s137.1) r189))) (by kernel_rfl) (by kernel_rfl) (by kernel_rfl) ((idxS hx190).2) (by kernel_rfl) (by kernel_rfl) (by kernel_rfl)) ?_
          refine evs_endS (by kernel_rfl) (fun τ hτ => ?_)
          refine bl_normal ?_
          exact jk_normal (List.set s137.2 (Int.toNat s137.1) r189) h hτ (here (by kernel_rfl))
        · replace h := iteF hb h
          refine sem_drawN [] [] [] [] [] 14 (by kernel_rfl) (by kernel_rfl) (by kernel_rfl) ?_
          refine evd_run 5 (by kernel_rfl) ?_
          obtain ⟨x197, hx197, h⟩ := bindS h
          refine evd_val (by kernel_rfl) (st_idxO (c := c_setup_stage) (l := r6) (i := (iadd s137.1 1)) (kd := .i64) (kk := (.top 500000)) (e := 84) (sz := 2) (by kernel_rfl) (by kernel_rfl) hx197 rfl) (by kernel_rfl) (by kernel_rfl) ?_
          refine evd_run 1 (by kernel_rfl) ?_
          refine evd_val (by kernel_rfl) (st_ldO (c := c_setup_stage) (l := r6) (i := (Int.toNat (iadd s137.1 1))) (v := (.fmap x197.before)) (agg := false) (sz := 1) (kk := (.top 500000)) (e := 84) (off := 1) (J := []) (by kernel_rfl) (by kernel_rfl) (by kernel_rfl) ((idxS hx197).2) (by kernel_rfl)) (by kernel_rfl) (by kernel_rfl) ?_
          refine evd_run 3 (by kernel_rfl) ?_
          obtain ⟨x198, hx198, h⟩ := bindS h
          refine evd_val (by kernel_rfl) (st_idxO (c := cI) (l := s137.2) (i := (iadd s137.1 1)) (kd := .i64) (kk := (.top 500001)) (e := 3) (sz := 1) (by kernel_rfl) (by kernel_rfl) hx198 rfl) (by kernel_rfl) (by kernel_rfl) ?_
          refine evd_val (by kernel_rfl) (st_ldO (c := cI) (l := s137.2) (i := (Int.toNat (iadd s137.1 1))) (v := (vI x198)) (agg := false) (sz := 1) (kk := (.top 500001)) (e := 3) (off := 0) (J := []) (by kernel_rfl) (by kernel_rfl) (by kernel_rfl) ((idxS hx198).2) (by kernel_rfl)) (by kernel_rfl) (by kernel_rfl) ?_
          refine evd_run 1 (by kernel_rfl) ?_
          refine evd_end (by kernel_rfl) ?_
          obtain ⟨x199, hx199, h⟩ := bindS h
          refine evo_op (st_idxO (c := cI) (l := s137.2) (i := s137.1) (kd := .i64) (kk := (.top 500001)) (e := 3) (sz := 1) (by kernel_rfl) (by kernel_rfl) hx199 rfl) ?_
          refine evo_op (st_stO (c := cI) (l := s137.2) (i := (Int.toNat s137.1)) (x := x199) (x' := ((mfind x197.before x198).getD 0)) (v := (vI ((mfind x197.before x198).getD 0))) (agg := false) (sz := 1) (kk := (.top 500001)) (e := 3) (off := 0) (J := []) (o := .row 3 [] (List.map cI (List.set s137.2 (Int.toNat s137.1) ((mfind x197.before x198).getD 0)))) (by kernel_rfl) (by kernel_rfl) (by kernel_rfl) ((idxS hx199).2) (by kernel_rfl) (by kernel_rfl) (by kernel_rfl)) ?_
          refine evo_endS (by kernel_rfl) (fun τ hτ => ?_)
          refine bl_normal ?_
          exact jk_normal (List.set s137.2 (Int.toNat s137.1) ((mfind x197.before x198).getD 0)) h hτ (here (by kernel_rfl))
      · replace h := iteF hb h
        refine sem_exitS 0 (by kernel_rfl) rfl (fun τ hτ => ?_)
        refine th_exit ?_
        obtain rfl := Option.some.inj h
        exact lk_outS hτ rfl (subR_prep [] [(500001, 500000)] (by kernel_rfl) rfl rfl (by kernel_rfl))
    · intro x
      rfl
    · intro τ hτ
      refine bl_hit (by kernel_rfl) ?_
      refine th_normalS hτ ⟨[(1, (vI stations)), (8, (.row (.top 500000) 3))], [(500000, .row 3 [] (List.map cI x200))]⟩ (here (by kernel_rfl)) ?_
      refine sem_seq (by kernel_rfl) ?_
      refine sem_region (by kernel_rfl) ?_
      refine evs_run 2 (by kernel_rfl) ?_
      obtain ⟨r202, hr202, h⟩ := bindS h
      refine evs_callS [] [(0, 700100)] [] (by kernel_rfl) (W.slices_Repeat_Lint_int_ok hr202) (by kernel_rfl) (by kernel_rfl) (.inl rfl) ?_
      refine evs_run 1 (by kernel_rfl) ?_
      refine evs_endS (by kernel_rfl) (fun τ hτ => ?_)
      refine th_normalS hτ ⟨[(8, (.row (.top 500000) 3)), (10, (.row (.top 700100) 3))], [(500000, .row 3 [] (List.map cI x200)), (700100, .row 3 [] (List.map cI r202))]⟩ (here (by kernel_rfl)) ?_
      refine sem_seq (by kernel_rfl) ?_
      refine sem_region (by kernel_rfl) ?_
      refine evs_run 1 (by kernel_rfl) ?_
      refine evs_endS (by kernel_rfl) (fun τ hτ => ?_)
      refine th_normalS hτ ⟨[(8, (.row (.top 500000) 3)), (10, (.row (.top 700100) 3)), (11, (.row (.top 11) 95))], [(11, .row 95 [] (List.map c_Change [])), (500000, .row 3 [] (List.map cI x200)), (700100, .row 3 [] (List.map cI r202))]⟩ (here (by kernel_rfl)) ?_
      refine sem_seq (by kernel_rfl) ?_
      refine sem_seq (by kernel_rfl) ?_
      refine sem_region (by kernel_rfl) ?_
      refine evs_run 1 (by kernel_rfl) ?_
      refine evs_op (st_len (c := cI) (l := x200) (x := (.row (.top 500000) 3)) (by kernel_rfl) (by kernel_rfl)) ?_
      refine evs_run 1 (by kernel_rfl) ?_
      refine evs_endS (by kernel_rfl) (fun τ hτ => ?_)
      refine th_normalS hτ ⟨[(10, (.row (.top 700100) 3)), (11, (.row (.top 11) 95)), (64, (.row (.top 500000) 3)), (65, (vI (x200.length : Int))), (66, (vI 0))], [(11, .row 95 [] (List.map c_Change [])), (500000, .row 3 [] (List.map cI x200)), (700100, .row 3 [] (List.map cI r202))]⟩ (here (by kernel_rfl)) ?_
      refine sem_block (by kernel_rfl) ?_
      obtain ⟨x280, hx280, h⟩ := bindS h
      refine sem_loopS (fun (s255 : Int × (List Int) × (List Change)) => ⟨[(10, (.row (.top 500000) 3)), (11, (.row (.top 500001) 95)), (64, (.row (.top 500002) 3)), (65, (vI (x200.length : Int))), (66, (vI s255.1))], [(500000, .row 3 [] (List.map cI s255.2.1)), (500001, .row 95 [] (List.map c_Change s255.2.2)), (500002, .row 3 [] (List.map cI x200))]⟩) (fun (x280 : (List Change)) => (.exit 2, ⟨[(11, (.row (.top 500000) 95))], [(500000, .row 95 [] (List.map c_Change x280))]⟩)) (setup_Plan_l3 x200) (0, r202, []) x280 (by kernel_rfl) (subR_prep [] [(11, 500001), (500000, 500002), (700100, 500000)] (by kernel_rfl) rfl rfl (by kernel_rfl)) hx280 ?_ ?_ ?_
      · intro s255 r h
        refine sem_seq (by kernel_rfl) ?_
        refine sem_region (by kernel_rfl) ?_
        refine evs_run 1 (by kernel_rfl) ?_
        refine evs_endS (by kernel_rfl) (fun τ hτ => ?_)
        refine th_normalS hτ ⟨[(10, (.row (.top 500000) 3)), (11, (.row (.top 500001) 95)), (64, (.row (.top 500002) 3)), (65, (vI (x200.length : Int))), (66, (vI s255.1)), (67, (vB (decide (s255.1 < (x200.length : Int)))))], [(500000, .row 3 [] (List.map cI s255.2.1)), (500001, .row 95 [] (List.map c_Change s255.2.2)), (500002, .row 3 [] (List.map cI x200))]⟩ (here (by kernel_rfl)) ?_
        refine sem_seq (by kernel_rfl) ?_
        refine sem_cond (decide (s255.1 < (x200.length : Int))) (by kernel_rfl) (by kernel_rfl) (fun hb => ?_) (fun hb => ?_)
        · replace h := iteT hb h
          refine sem_skipS (by kernel_rfl) (fun τ hτ => ?_)
          refine th_normalS hτ ⟨[(10, (.row (.top 500000) 3)), (11, (.row (.top 500001) 95)), (64, (.row (.top 500002) 3)), (65, (vI (x200.length : Int))), (66, (vI s255.1))], [(500000, .row 3 [] (List.map cI s255.2.1)), (500001, .row 95 [] (List.map c_Change s255.2.2)), (500002, .row 3 [] (List.map cI x200))]⟩ (here (by kernel_rfl)) ?_
          refine sem_seq (by kernel_rfl) ?_
          refine sem_block (by kernel_rfl) ?_
          refine sem_seq (by kernel_rfl) ?_
          refine sem_region (by kernel_rfl) ?_
          refine evs_run 1 (by kernel_rfl) ?_
          obtain ⟨x275, hx275, h⟩ := bindS h
          refine evs_op (st_idxO (c := cI) (l := x200) (i := s255.1) (kd := .i64) (kk := (.top 500002)) (e := 3) (sz := 1) (by kernel_rfl) (by kernel_rfl) hx275 rfl) ?_
          refine evs_op (st_ldO (c := cI) (l := x200) (i := (Int.toNat s255.1)) (v := (vI x275)) (agg := false) (sz := 1) (kk := (.top 500002)) (e := 3) (off := 0) (J := []) (by kernel_rfl) (by kernel_rfl) (by kernel_rfl) ((idxS hx275).2) (by kernel_rfl)) ?_
          refine evs_run 2 (by kernel_rfl) ?_
          refine evs_endS (by kernel_rfl) (fun τ hτ => ?_)
          refine th_normalS hτ ⟨[(10, (.row (.top 500000) 3)), (11, (.row (.top 500001) 95)), (12, (vI s255.1)), (13, (vI x275)), (64, (.row (.top 500002) 3)), (65, (vI (x200.length : Int))), (66, (vI s255.1))], [(500000, .row 3 [] (List.map cI s255.2.1)), (500001, .row 95 [] (List.map c_Change s255.2.2)), (500002, .row 3 [] (List.map cI x200))]⟩ (here (by kernel_rfl)) ?_
          refine sem_region (by kernel_rfl) ?_
          refine evs_run 4 (by kernel_rfl) ?_
          obtain ⟨r278, hr278, h⟩ := bindS h
          refine evs_callS [(1000000, 500000)] [(0, 700200)] [] (by kernel_rfl) (W.setup_mount_ok hr278) (by kernel_rfl) (by kernel_rfl) (.inl rfl) ?_
          obtain ⟨l279, hl279, h⟩ := bindS h
          refine evs_op (st_app (c := c_Change) (l := s255.2.2) (l2 := r278.1) (x := (.row (.top 700200) 95)) (g := 500001) (e := 95) (sz := 3) (d := 76) (by kernel_rfl) (by kernel_rfl) (by kernel_rfl) (by kernel_rfl) (fun _ => rfl) rfl hl279) ?_
          refine evs_run 1 (by kernel_rfl) ?_
          refine evs_endS (by kernel_rfl) (fun τ hτ => ?_)
          refine bl_normal ?_
          refine th_normalS hτ ⟨[(10, (.row (.top 500000) 3)), (11, (.row (.top 500001) 95)), (64, (.row (.top 500002) 3)), (65, (vI (x200.length : Int))), (66, (vI s255.1))], [(500000, .row 3 [] (List.map cI r278.2)), (500001, .row 95 [] (List.map c_Change l279)), (500002, .row 3 [] (List.map cI x200))]⟩ (here (by kernel_rfl)) ?_
          refine sem_region (by kernel_rfl) ?_
          refine evs_run 2 (by kernel_rfl) ?_
          refine evs_endS (by kernel_rfl) (fun τ hτ => ?_)
          obtain rfl := Option.some.inj h
          exact lk_nextS hτ (here (by kernel_rfl))
        · replace h := iteF hb h
          refine sem_exitS 2 (by kernel_rfl) rfl (fun τ hτ => ?_)
          refine th_exit ?_
          obtain rfl := Option.some.inj h
          exact lk_outS hτ rfl (subR_prep [] [(500001, 500000)] (by kernel_rfl) rfl rfl (by kernel_rfl))
      · intro x
        rfl
      · intro τ hτ
        refine bl_hit (by kernel_rfl) ?_
        refine th_normalS hτ ⟨[(11, (.row (.top 500000) 95))], [(500000, .row 95 [] (List.map c_Change x280))]⟩ (here (by kernel_rfl)) ?_
        refine sem_seq (by kernel_rfl) ?_
        refine sem_region (by kernel_rfl) ?_
        refine evs_run 3 (by kernel_rfl) ?_
        refine evs_endS (by kernel_rfl) (fun τ hτ => ?_)
        refine th_normalS hτ ⟨[(4, (.row (.top 500000) 95)), (5, (vI 0))], [(500000, .row 95 [] (List.map c_Change x280))]⟩ (here (by kernel_rfl)) ?_
        refine sem_retS (by kernel_rfl) (fun τ hτ => ?_)
        obtain rfl := Option.some.inj h
        exact rk_ret hτ [(4, (.row (.top 0) 95)), (5, (vI 0))] (subR_prep [] [(500000, 0)] (by kernel_rfl) rfl rfl (by kernel_rfl)) (by kernel_rfl)
theorem W.sheetmetaltop_TopSetups_ok {x0 : sheetmetallaw05_Rig} {l : (List Change)} {w : (List Window)} {r : Bool} (h : sheetmetaltop_TopSetups x0 l w = some r) : PC G.P 11 [(.agg [(.sl (List.map (cS cI) x0.Needs)), (vI x0.Stations)]), (.sl (List.map c_Change l)), (.sl (List.map c_Window w))] [] (vB r) [] := by
  refine pc_of G (fn := Try.f11) Try.func11 (by kernel_rfl) (by kernel_rfl) (by kernel_rfl) (by kernel_rfl) (by kernel_rfl) ?_
  refine sem_set ⟨[(0, (.agg [(.sl (List.map (cS cI) x0.Needs)), (vI x0.Stations)])), (1, (.sl (List.map c_Change l))), (2, (.sl (List.map c_Window w)))], []⟩ (by kernel_rfl) ?_
  refine sem_seq (by kernel_rfl) ?_
  refine sem_region (by kernel_rfl) ?_
  refine evs_run 2 (by kernel_rfl) ?_
  refine evs_endS (by kernel_rfl) (fun τ hτ => ?_)
  refine th_normalS hτ ⟨[(1, (.sl (List.map c_Change l))), (2, (.sl (List.map c_Window w))), (3, (.ptr 3 0))], [(3, .box [(.sl (List.map (cS cI) x0.Needs)), (vI x0.Stations)])]⟩ (here (by kernel_rfl)) ?_
  refine sem_seq (by kernel_rfl) ?_
  refine sem_drawN [] [] [] [] [] 5 (by kernel_rfl) (by kernel_rfl) (by kernel_rfl) ?_
  refine evd_run 5 (by kernel_rfl) ?_
  refine evd_end (by kernel_rfl) ?_
  refine evo_run 1 (by kernel_rfl) ?_
  refine evo_endS (by kernel_rfl) (fun τ hτ => ?_)
  refine th_normalS hτ ⟨[(1, (.sl (List.map c_Change l))), (2, (.sl (List.map c_Window w))), (7, (.sl (List.map (cS cI) x0.Needs))), (8, (vI x0.Stations))], []⟩ (here (by kernel_rfl)) ?_
  refine sem_seq (by kernel_rfl) ?_
  refine sem_region (by kernel_rfl) ?_
  refine evs_run 2 (by kernel_rfl) ?_
  obtain ⟨r2, hr2, h⟩ := bindS h
  refine evs_callP [] (by kernel_rfl) (W.setup_Least_ok hr2) (by kernel_rfl) (.inl rfl) (by kernel_rfl) ?_
  refine evs_run 5 (by kernel_rfl) ?_
  refine evs_endS (by kernel_rfl) (fun τ hτ => ?_)
  refine th_normalS hτ ⟨[(1, (.sl (List.map c_Change l))), (2, (.sl (List.map c_Window w))), (7, (.sl (List.map (cS cI) x0.Needs))), (8, (vI x0.Stations)), (9, (vI r2.1)), (10, (vI r2.2))], []⟩ (here (by kernel_rfl)) ?_
  refine sem_seq (by kernel_rfl) ?_
  refine sem_seq (by kernel_rfl) ?_
  obtain ⟨j4, hj4, h⟩ := bindS h
  refine sem_regionC ⟨[(1, (.sl (List.map c_Change l))), (2, (.sl (List.map c_Window w))), (7, (.sl (List.map (cS cI) x0.Needs))), (8, (vI x0.Stations)), (38, (vB j4))], []⟩ (by kernel_rfl) ?_ (fun τ hτ => ?_)
  · replace h := hj4
    refine evs_run 3 (by kernel_rfl) ?_
    refine evs_split (r2.2 != 0) (fun b0 => ⟨[(1, (.sl (List.map c_Change l))), (2, (.sl (List.map c_Window w))), (7, (.sl (List.map (cS cI) x0.Needs))), (8, (vI x0.Stations)), (9, (vI r2.1)), (35, (vB b0))], []⟩) (by kernel_rfl) (fun hb => ?_) (fun hb => ?_)
    · replace h := iteT hb h
      refine evs_run 3 (by kernel_rfl) ?_
      refine evs_endS (by kernel_rfl) (fun τ hτ => ?_)
      obtain rfl := Option.some.inj h
      exact leafC hτ (here (by kernel_rfl))
    · replace h := iteF hb h
      refine evs_run 3 (by kernel_rfl) ?_
      refine evs_endS (by kernel_rfl) (fun τ hτ => ?_)
      obtain rfl := Option.some.inj h
      exact leafC hτ (here (by kernel_rfl))
  refine th_normalS hτ ⟨[(1, (.sl (List.map c_Change l))), (2, (.sl (List.map c_Window w))), (7, (.sl (List.map (cS cI) x0.Needs))), (8, (vI x0.Stations)), (38, (vB j4))], []⟩ (here (by kernel_rfl)) ?_
  refine sem_cond j4 (by kernel_rfl) (by kernel_rfl) (fun hb => ?_) (fun hb => ?_)
  · replace h := iteT hb h
    refine sem_seq (by kernel_rfl) ?_
    refine sem_region (by kernel_rfl) ?_
    refine evs_run 1 (by kernel_rfl) ?_
    refine evs_endS (by kernel_rfl) (fun τ hτ => ?_)
    refine th_normalS hτ ⟨[(6, (vB false))], []⟩ (here (by kernel_rfl)) ?_
    refine sem_retS (by kernel_rfl) (fun τ hτ => ?_)
    refine th_ret ?_
    obtain rfl := Option.some.inj h
    exact rk_ret hτ [(6, (vB false))] (here (by kernel_rfl)) (by kernel_rfl)
  · replace h := iteF hb h
    refine sem_skipS (by kernel_rfl) (fun τ hτ => ?_)
    refine th_normalS hτ ⟨[(1, (.sl (List.map c_Change l))), (2, (.sl (List.map c_Window w))), (7, (.sl (List.map (cS cI) x0.Needs))), (8, (vI x0.Stations))], []⟩ (here (by kernel_rfl)) ?_
    refine sem_seq (by kernel_rfl) ?_
    refine sem_seq (by kernel_rfl) ?_
    obtain ⟨j9, hj9, h⟩ := bindS h
    refine sem_regionC ⟨[(1, (.sl (List.map c_Change l))), (2, (.sl (List.map c_Window w))), (7, (.sl (List.map (cS cI) x0.Needs))), (8, (vI x0.Stations)), (55, (vB j9))], []⟩ (by kernel_rfl) ?_ (fun τ hτ => ?_)
    · replace h := hj9
      refine evs_run 1 (by kernel_rfl) ?_
      obtain ⟨r10, hr10, h⟩ := bindS h
      refine evs_callP [] (by kernel_rfl) (W.sheetmetallaw05_Long_ok hr10) (by kernel_rfl) (.inl rfl) (by kernel_rfl) ?_
      refine evs_run 1 (by kernel_rfl) ?_
      refine evs_split r10 (fun b0 => ⟨[(1, (.sl (List.map c_Change l))), (2, (.sl (List.map c_Window w))), (7, (.sl (List.map (cS cI) x0.Needs))), (8, (vI x0.Stations)), (41, (vB b0))], []⟩) (by kernel_rfl) (fun hb => ?_) (fun hb => ?_)
      · replace h := iteT hb h
        refine evs_run 14 (by kernel_rfl) ?_
        refine evs_endS (by kernel_rfl) (fun τ hτ => ?_)
        obtain rfl := Option.some.inj h
        exact leafC hτ (here (by kernel_rfl))
      · replace h := iteF hb h
        refine evs_run 1 (by kernel_rfl) ?_
        refine evs_op (st_len (c := (cS cI)) (l := x0.Needs) (x := (.sl (List.map (cS cI) x0.Needs))) (by kernel_rfl) (by kernel_rfl)) ?_
        refine evs_run 3 (by kernel_rfl) ?_
        refine evs_split (decide ((x0.Needs.length : Int) > 12)) (fun b0 => ⟨[(1, (.sl (List.map c_Change l))), (2, (.sl (List.map c_Window w))), (7, (.sl (List.map (cS cI) x0.Needs))), (8, (vI x0.Stations)), (46, (vB b0))], []⟩) (by kernel_rfl) (fun hb => ?_) (fun hb => ?_)
        · replace h := iteT hb h
          refine evs_run 9 (by kernel_rfl) ?_
          refine evs_endS (by kernel_rfl) (fun τ hτ => ?_)
          obtain rfl := Option.some.inj h
          exact leafC hτ (here (by kernel_rfl))
        · replace h := iteF hb h
          refine evs_run 1 (by kernel_rfl) ?_
          refine evs_op (st_len (c := c_Change) (l := l) (x := (.sl (List.map c_Change l))) (by kernel_rfl) (by kernel_rfl)) ?_
          refine evs_run 3 (by kernel_rfl) ?_
          refine evs_split (decide ((l.length : Int) > 60)) (fun b0 => ⟨[(1, (.sl (List.map c_Change l))), (2, (.sl (List.map c_Window w))), (7, (.sl (List.map (cS cI) x0.Needs))), (8, (vI x0.Stations)), (51, (vB b0))], []⟩) (by kernel_rfl) (fun hb => ?_) (fun hb => ?_)
          · replace h := iteT hb h
            refine evs_run 4 (by kernel_rfl) ?_
            refine evs_endS (by kernel_rfl) (fun τ hτ => ?_)
            obtain rfl := Option.some.inj h
            exact leafC hτ (here (by kernel_rfl))
          · replace h := iteF hb h
            refine evs_run 1 (by kernel_rfl) ?_
            refine evs_op (st_len (c := c_Window) (l := w) (x := (.sl (List.map c_Window w))) (by kernel_rfl) (by kernel_rfl)) ?_
            refine evs_run 2 (by kernel_rfl) ?_
            refine evs_endS (by kernel_rfl) (fun τ hτ => ?_)
            obtain rfl := Option.some.inj h
            exact leafC hτ (here (by kernel_rfl))
    refine th_normalS hτ ⟨[(1, (.sl (List.map c_Change l))), (2, (.sl (List.map c_Window w))), (7, (.sl (List.map (cS cI) x0.Needs))), (8, (vI x0.Stations)), (55, (vB j9))], []⟩ (here (by kernel_rfl)) ?_
    refine sem_cond j9 (by kernel_rfl) (by kernel_rfl) (fun hb => ?_) (fun hb => ?_)
    · replace h := iteT hb h
      refine sem_seq (by kernel_rfl) ?_
      refine sem_region (by kernel_rfl) ?_
      refine evs_run 1 (by kernel_rfl) ?_
      refine evs_endS (by kernel_rfl) (fun τ hτ => ?_)
      refine th_normalS hτ ⟨[(6, (vB true))], []⟩ (here (by kernel_rfl)) ?_
      refine sem_retS (by kernel_rfl) (fun τ hτ => ?_)
      refine th_ret ?_
      obtain rfl := Option.some.inj h
      exact rk_ret hτ [(6, (vB true))] (here (by kernel_rfl)) (by kernel_rfl)
    · replace h := iteF hb h
      refine sem_skipS (by kernel_rfl) (fun τ hτ => ?_)
      refine th_normalS hτ ⟨[(1, (.sl (List.map c_Change l))), (2, (.sl (List.map c_Window w))), (7, (.sl (List.map (cS cI) x0.Needs))), (8, (vI x0.Stations))], []⟩ (here (by kernel_rfl)) ?_
      refine sem_seq (by kernel_rfl) ?_
      refine sem_region (by kernel_rfl) ?_
      refine evs_run 2 (by kernel_rfl) ?_
      obtain ⟨r12, hr12, h⟩ := bindS h
      refine evs_callP [] (by kernel_rfl) (W.setup_Least_ok hr12) (by kernel_rfl) (.inl rfl) (by kernel_rfl) ?_
      refine evs_run 5 (by kernel_rfl) ?_
      refine evs_endS (by kernel_rfl) (fun τ hτ => ?_)
      refine th_normalS hτ ⟨[(1, (.sl (List.map c_Change l))), (2, (.sl (List.map c_Window w))), (7, (.sl (List.map (cS cI) x0.Needs))), (8, (vI x0.Stations)), (10, (vI r12.2)), (11, (vI r12.1))], []⟩ (here (by kernel_rfl)) ?_
      refine sem_seq (by kernel_rfl) ?_
      refine sem_region (by kernel_rfl) ?_
      refine evs_run 2 (by kernel_rfl) ?_
      obtain ⟨r14, hr14, h⟩ := bindS h
      refine evs_callS [] [(0, 700100)] [] (by kernel_rfl) (W.setup_Plan_ok hr14) (by kernel_rfl) (by kernel_rfl) (.inl rfl) ?_
      refine evs_run 5 (by kernel_rfl) ?_
      refine evs_endS (by kernel_rfl) (fun τ hτ => ?_)
      refine th_normalS hτ ⟨[(1, (.sl (List.map c_Change l))), (2, (.sl (List.map c_Window w))), (7, (.sl (List.map (cS cI) x0.Needs))), (8, (vI x0.Stations)), (10, (vI r12.2)), (11, (vI r12.1)), (12, (.row (.top 700100) 95)), (13, (vI r14.2))], [(700100, .row 95 [] (List.map c_Change r14.1))]⟩ (here (by kernel_rfl)) ?_
      refine sem_seq (by kernel_rfl) ?_
      refine sem_seq (by kernel_rfl) ?_
      refine sem_region (by kernel_rfl) ?_
      refine evs_run 3 (by kernel_rfl) ?_
      refine evs_endS (by kernel_rfl) (fun τ hτ => ?_)
      refine th_normalS hτ ⟨[(1, (.sl (List.map c_Change l))), (2, (.sl (List.map c_Window w))), (7, (.sl (List.map (cS cI) x0.Needs))), (8, (vI x0.Stations)), (10, (vI r12.2)), (11, (vI r12.1)), (12, (.row (.top 700100) 95)), (70, (vB (r12.2 != r14.2)))], [(700100, .row 95 [] (List.map c_Change r14.1))]⟩ (here (by kernel_rfl)) ?_
      refine sem_cond (r12.2 != r14.2) (by kernel_rfl) (by kernel_rfl) (fun hb => ?_) (fun hb => ?_)
      · replace h := iteT hb h
        refine sem_seq (by kernel_rfl) ?_
        refine sem_region (by kernel_rfl) ?_
        refine evs_run 1 (by kernel_rfl) ?_
        refine evs_endS (by kernel_rfl) (fun τ hτ => ?_)
        refine th_normalS hτ ⟨[(6, (vB false))], []⟩ (here (by kernel_rfl)) ?_
        refine sem_retS (by kernel_rfl) (fun τ hτ => ?_)
        refine th_ret ?_
        obtain rfl := Option.some.inj h
        exact rk_ret hτ [(6, (vB false))] (here (by kernel_rfl)) (by kernel_rfl)
      · replace h := iteF hb h
        refine sem_skipS (by kernel_rfl) (fun τ hτ => ?_)
        refine th_normalS hτ ⟨[(1, (.sl (List.map c_Change l))), (2, (.sl (List.map c_Window w))), (7, (.sl (List.map (cS cI) x0.Needs))), (8, (vI x0.Stations)), (10, (vI r12.2)), (11, (vI r12.1)), (12, (.row (.top 700100) 95))], [(700100, .row 95 [] (List.map c_Change r14.1))]⟩ (here (by kernel_rfl)) ?_
        refine sem_seq (by kernel_rfl) ?_
        refine sem_seq (by kernel_rfl) ?_
        refine sem_region (by kernel_rfl) ?_
        refine evs_run 2 (by kernel_rfl) ?_
        refine evs_endS (by kernel_rfl) (fun τ hτ => ?_)
        refine th_normalS hτ ⟨[(1, (.sl (List.map c_Change l))), (2, (.sl (List.map c_Window w))), (7, (.sl (List.map (cS cI) x0.Needs))), (8, (vI x0.Stations)), (11, (vI r12.1)), (12, (.row (.top 700100) 95)), (72, (vB (r12.2 != 0)))], [(700100, .row 95 [] (List.map c_Change r14.1))]⟩ (here (by kernel_rfl)) ?_
        refine sem_cond (r12.2 != 0) (by kernel_rfl) (by kernel_rfl) (fun hb => ?_) (fun hb => ?_)
        · replace h := iteT hb h
          refine sem_seq (by kernel_rfl) ?_
          obtain ⟨j16, hj16, h⟩ := bindS h
          refine sem_regionC ⟨[(6, (vB j16))], []⟩ (by kernel_rfl) ?_ (fun τ hτ => ?_)
          · replace h := hj16
            refine evs_run 3 (by kernel_rfl) ?_
            refine evs_split (r12.1 == 0) (fun b0 => ⟨[(12, (.row (.top 700100) 95)), (75, (vB b0))], [(700100, .row 95 [] (List.map c_Change r14.1))]⟩) (by kernel_rfl) (fun hb => ?_) (fun hb => ?_)
            · replace h := iteT hb h
              refine evs_run 1 (by kernel_rfl) ?_
              refine evs_op (st_len (c := c_Change) (l := r14.1) (x := (.row (.top 700100) 95)) (by kernel_rfl) (by kernel_rfl)) ?_
              refine evs_run 3 (by kernel_rfl) ?_
              refine evs_endS (by kernel_rfl) (fun τ hτ => ?_)
              obtain rfl := Option.some.inj h
              exact leafC hτ (here (by kernel_rfl))
            · replace h := iteF hb h
              refine evs_run 5 (by kernel_rfl) ?_
              refine evs_endS (by kernel_rfl) (fun τ hτ => ?_)
              obtain rfl := Option.some.inj h
              exact leafC hτ (here (by kernel_rfl))
          refine th_normalS hτ ⟨[(6, (vB j16))], []⟩ (here (by kernel_rfl)) ?_
          refine sem_retS (by kernel_rfl) (fun τ hτ => ?_)
          refine th_ret ?_
          obtain rfl := Option.some.inj h
          exact rk_ret hτ [(6, (vB j16))] (here (by kernel_rfl)) (by kernel_rfl)
        · replace h := iteF hb h
          refine sem_skipS (by kernel_rfl) (fun τ hτ => ?_)
          refine th_normalS hτ ⟨[(1, (.sl (List.map c_Change l))), (2, (.sl (List.map c_Window w))), (7, (.sl (List.map (cS cI) x0.Needs))), (8, (vI x0.Stations)), (11, (vI r12.1)), (12, (.row (.top 700100) 95))], [(700100, .row 95 [] (List.map c_Change r14.1))]⟩ (here (by kernel_rfl)) ?_
          refine sem_seq (by kernel_rfl) ?_
          refine sem_region (by kernel_rfl) ?_
          refine evs_run 3 (by kernel_rfl) ?_
          obtain ⟨r18, hr18, h⟩ := bindS h
          refine evs_callP [] (by kernel_rfl) (W.setup_CheckBound_ok hr18) (by kernel_rfl) (.inl rfl) (by kernel_rfl) ?_
          refine evs_run 5 (by kernel_rfl) ?_
          refine evs_endS (by kernel_rfl) (fun τ hτ => ?_)
          refine th_normalS hτ ⟨[(1, (.sl (List.map c_Change l))), (7, (.sl (List.map (cS cI) x0.Needs))), (8, (vI x0.Stations)), (11, (vI r12.1)), (12, (.row (.top 700100) 95)), (14, (vI r18.1)), (15, (vI r18.2))], [(700100, .row 95 [] (List.map c_Change r14.1))]⟩ (here (by kernel_rfl)) ?_
          refine sem_seq (by kernel_rfl) ?_
          refine sem_region (by kernel_rfl) ?_
          refine evs_run 2 (by kernel_rfl) ?_
          obtain ⟨r20, hr20, h⟩ := bindS h
          refine evs_callS [] [(0, 700101)] [] (by kernel_rfl) (W.setup_Bound_ok hr20) (by kernel_rfl) (by kernel_rfl) (.inl rfl) ?_
          refine evs_run 5 (by kernel_rfl) ?_
          refine evs_endS (by kernel_rfl) (fun τ hτ => ?_)
          refine th_normalS hτ ⟨[(1, (.sl (List.map c_Change l))), (7, (.sl (List.map (cS cI) x0.Needs))), (8, (vI x0.Stations)), (11, (vI r12.1)), (12, (.row (.top 700100) 95)), (14, (vI r18.1)), (15, (vI r18.2)), (16, (.row (.top 700101) 35)), (17, (vI r20.2))], [(700100, .row 95 [] (List.map c_Change r14.1)), (700101, .row 35 [] (List.map c_Window r20.1))]⟩ (here (by kernel_rfl)) ?_
          refine sem_seq (by kernel_rfl) ?_
          refine sem_region (by kernel_rfl) ?_
          refine evs_run 3 (by kernel_rfl) ?_
          obtain ⟨r22, hr22, h⟩ := bindS h
          refine evs_callP [700101] (by kernel_rfl) (W.setup_CheckBound_ok hr22) (by kernel_rfl) (.inr rfl) (by kernel_rfl) ?_
          refine evs_run 5 (by kernel_rfl) ?_
          refine evs_endS (by kernel_rfl) (fun τ hτ => ?_)
          refine th_normalS hτ ⟨[(1, (.sl (List.map c_Change l))), (7, (.sl (List.map (cS cI) x0.Needs))), (8, (vI x0.Stations)), (11, (vI r12.1)), (12, (.row (.top 700100) 95)), (14, (vI r18.1)), (15, (vI r18.2)), (17, (vI r20.2)), (18, (vI r22.1)), (19, (vI r22.2))], [(700100, .row 95 [] (List.map c_Change r14.1))]⟩ (here (by kernel_rfl)) ?_
          refine sem_seq (by kernel_rfl) ?_
          refine sem_seq (by kernel_rfl) ?_
          obtain ⟨j27, hj27, h⟩ := bindS h
          refine sem_regionC ⟨[(1, (.sl (List.map c_Change l))), (7, (.sl (List.map (cS cI) x0.Needs))), (8, (vI x0.Stations)), (11, (vI r12.1)), (14, (vI r18.1)), (15, (vI r18.2)), (132, (vB j27))], []⟩ (by kernel_rfl) ?_ (fun τ hτ => ?_)
          · replace h := hj27
            refine evs_run 1 (by kernel_rfl) ?_
            refine evs_op (st_len (c := c_Change) (l := r14.1) (x := (.row (.top 700100) 95)) (by kernel_rfl) (by kernel_rfl)) ?_
            refine evs_run 3 (by kernel_rfl) ?_
            refine evs_split ((r14.1.length : Int) != r12.1) (fun b0 => ⟨[(1, (.sl (List.map c_Change l))), (7, (.sl (List.map (cS cI) x0.Needs))), (8, (vI x0.Stations)), (11, (vI r12.1)), (12, (.row (.top 700100) 95)), (14, (vI r18.1)), (15, (vI r18.2)), (17, (vI r20.2)), (18, (vI r22.1)), (19, (vI r22.2)), (104, (vB b0))], [(700100, .row 95 [] (List.map c_Change r14.1))]⟩) (by kernel_rfl) (fun hb => ?_) (fun hb => ?_)
            · replace h := iteT hb h
              refine evs_run 28 (by kernel_rfl) ?_
              refine evs_endS (by kernel_rfl) (fun τ hτ => ?_)
              obtain rfl := Option.some.inj h
              exact leafC hτ (here (by kernel_rfl))
            · replace h := iteF hb h
              refine evs_run 3 (by kernel_rfl) ?_
              obtain ⟨r28, hr28, h⟩ := bindS h
              refine evs_callP [700100] (by kernel_rfl) (W.setup_Check_ok hr28) (by kernel_rfl) (.inr rfl) (by kernel_rfl) ?_
              refine evs_run 3 (by kernel_rfl) ?_
              refine evs_split (r28 != 0) (fun b0 => ⟨[(1, (.sl (List.map c_Change l))), (7, (.sl (List.map (cS cI) x0.Needs))), (8, (vI x0.Stations)), (11, (vI r12.1)), (14, (vI r18.1)), (15, (vI r18.2)), (17, (vI r20.2)), (18, (vI r22.1)), (19, (vI r22.2)), (111, (vB b0))], []⟩) (by kernel_rfl) (fun hb => ?_) (fun hb => ?_)
              · replace h := iteT hb h
                refine evs_run 21 (by kernel_rfl) ?_
                refine evs_endS (by kernel_rfl) (fun τ hτ => ?_)
                obtain rfl := Option.some.inj h
                exact leafC hτ (here (by kernel_rfl))
              · replace h := iteF hb h
                refine evs_run 4 (by kernel_rfl) ?_
                refine evs_split (r20.2 != 0) (fun b0 => ⟨[(1, (.sl (List.map c_Change l))), (7, (.sl (List.map (cS cI) x0.Needs))), (8, (vI x0.Stations)), (11, (vI r12.1)), (14, (vI r18.1)), (15, (vI r18.2)), (18, (vI r22.1)), (19, (vI r22.2)), (115, (vB b0))], []⟩) (by kernel_rfl) (fun hb => ?_) (fun hb => ?_)
                · replace h := iteT hb h
                  refine evs_run 17 (by kernel_rfl) ?_
                  refine evs_endS (by kernel_rfl) (fun τ hτ => ?_)
                  obtain rfl := Option.some.inj h
                  exact leafC hτ (here (by kernel_rfl))
                · replace h := iteF hb h
                  refine evs_run 4 (by kernel_rfl) ?_
                  refine evs_split (r22.2 != 0) (fun b0 => ⟨[(1, (.sl (List.map c_Change l))), (7, (.sl (List.map (cS cI) x0.Needs))), (8, (vI x0.Stations)), (11, (vI r12.1)), (14, (vI r18.1)), (15, (vI r18.2)), (18, (vI r22.1)), (119, (vB b0))], []⟩) (by kernel_rfl) (fun hb => ?_) (fun hb => ?_)
                  · replace h := iteT hb h
                    refine evs_run 13 (by kernel_rfl) ?_
                    refine evs_endS (by kernel_rfl) (fun τ hτ => ?_)
                    obtain rfl := Option.some.inj h
                    exact leafC hτ (here (by kernel_rfl))
                  · replace h := iteF hb h
                    refine evs_run 5 (by kernel_rfl) ?_
                    refine evs_split (decide (r22.1 > r12.1)) (fun b0 => ⟨[(1, (.sl (List.map c_Change l))), (7, (.sl (List.map (cS cI) x0.Needs))), (8, (vI x0.Stations)), (11, (vI r12.1)), (14, (vI r18.1)), (15, (vI r18.2)), (124, (vB b0))], []⟩) (by kernel_rfl) (fun hb => ?_) (fun hb => ?_)
                    · replace h := iteT hb h
                      refine evs_run 8 (by kernel_rfl) ?_
                      refine evs_endS (by kernel_rfl) (fun τ hτ => ?_)
                      obtain rfl := Option.some.inj h
                      exact leafC hτ (here (by kernel_rfl))
                    · replace h := iteF hb h
                      refine evs_run 3 (by kernel_rfl) ?_
                      refine evs_split (r18.2 == 0) (fun b0 => ⟨[(1, (.sl (List.map c_Change l))), (7, (.sl (List.map (cS cI) x0.Needs))), (8, (vI x0.Stations)), (11, (vI r12.1)), (14, (vI r18.1)), (15, (vI r18.2)), (124, (vB false)), (127, (vB b0))], []⟩) (by kernel_rfl) (fun hb => ?_) (fun hb => ?_)
                      · replace h := iteT hb h
                        refine evs_run 5 (by kernel_rfl) ?_
                        refine evs_endS (by kernel_rfl) (fun τ hτ => ?_)
                        obtain rfl := Option.some.inj h
                        exact leafC hτ (here (by kernel_rfl))
                      · replace h := iteF hb h
                        refine evs_run 5 (by kernel_rfl) ?_
                        refine evs_endS (by kernel_rfl) (fun τ hτ => ?_)
                        obtain rfl := Option.some.inj h
                        exact leafC hτ (here (by kernel_rfl))
          refine th_normalS hτ ⟨[(1, (.sl (List.map c_Change l))), (7, (.sl (List.map (cS cI) x0.Needs))), (8, (vI x0.Stations)), (11, (vI r12.1)), (14, (vI r18.1)), (15, (vI r18.2)), (132, (vB j27))], []⟩ (here (by kernel_rfl)) ?_
          refine sem_cond j27 (by kernel_rfl) (by kernel_rfl) (fun hb => ?_) (fun hb => ?_)
          · replace h := iteT hb h
            refine sem_seq (by kernel_rfl) ?_
            refine sem_region (by kernel_rfl) ?_
            refine evs_run 1 (by kernel_rfl) ?_
            refine evs_endS (by kernel_rfl) (fun τ hτ => ?_)
            refine th_normalS hτ ⟨[(6, (vB false))], []⟩ (here (by kernel_rfl)) ?_
            refine sem_retS (by kernel_rfl) (fun τ hτ => ?_)
            refine th_ret ?_
            obtain rfl := Option.some.inj h
            exact rk_ret hτ [(6, (vB false))] (here (by kernel_rfl)) (by kernel_rfl)
          · replace h := iteF hb h
            refine sem_skipS (by kernel_rfl) (fun τ hτ => ?_)
            refine th_normalS hτ ⟨[(1, (.sl (List.map c_Change l))), (7, (.sl (List.map (cS cI) x0.Needs))), (8, (vI x0.Stations)), (11, (vI r12.1)), (14, (vI r18.1)), (15, (vI r18.2))], []⟩ (here (by kernel_rfl)) ?_
            refine sem_seq (by kernel_rfl) ?_
            refine sem_seq (by kernel_rfl) ?_
            obtain ⟨j33, hj33, h⟩ := bindS h
            refine sem_regionC ⟨[(7, (.sl (List.map (cS cI) x0.Needs))), (8, (vI x0.Stations)), (11, (vI r12.1)), (153, (vB j33))], []⟩ (by kernel_rfl) ?_ (fun τ hτ => ?_)
            · replace h := hj33
              refine evs_run 3 (by kernel_rfl) ?_
              obtain ⟨r34, hr34, h⟩ := bindS h
              refine evs_callP [] (by kernel_rfl) (W.setup_Check_ok hr34) (by kernel_rfl) (.inl rfl) (by kernel_rfl) ?_
              refine evs_run 2 (by kernel_rfl) ?_
              refine evs_split (r34 == 0) (fun b0 => ⟨[(1, (.sl (List.map c_Change l))), (7, (.sl (List.map (cS cI) x0.Needs))), (8, (vI x0.Stations)), (11, (vI r12.1)), (14, (vI r18.1)), (15, (vI r18.2)), (138, (vB b0))], []⟩) (by kernel_rfl) (fun hb => ?_) (fun hb => ?_)
              · replace h := iteT hb h
                refine evs_run 1 (by kernel_rfl) ?_
                refine evs_op (st_len (c := c_Change) (l := l) (x := (.sl (List.map c_Change l))) (by kernel_rfl) (by kernel_rfl)) ?_
                refine evs_run 3 (by kernel_rfl) ?_
                refine evs_split (decide ((l.length : Int) < r12.1)) (fun b0 => ⟨[(1, (.sl (List.map c_Change l))), (7, (.sl (List.map (cS cI) x0.Needs))), (8, (vI x0.Stations)), (11, (vI r12.1)), (14, (vI r18.1)), (15, (vI r18.2)), (138, (vB true)), (143, (vB b0))], []⟩) (by kernel_rfl) (fun hb => ?_) (fun hb => ?_)
                · replace h := iteT hb h
                  refine evs_run 10 (by kernel_rfl) ?_
                  refine evs_endS (by kernel_rfl) (fun τ hτ => ?_)
                  obtain rfl := Option.some.inj h
                  exact leafC hτ (here (by kernel_rfl))
                · replace h := iteF hb h
                  refine evs_run 3 (by kernel_rfl) ?_
                  refine evs_split (r18.2 == 0) (fun b0 => ⟨[(1, (.sl (List.map c_Change l))), (7, (.sl (List.map (cS cI) x0.Needs))), (8, (vI x0.Stations)), (11, (vI r12.1)), (14, (vI r18.1)), (138, (vB true)), (143, (vB false)), (146, (vB b0))], []⟩) (by kernel_rfl) (fun hb => ?_) (fun hb => ?_)
                  · replace h := iteT hb h
                    refine evs_run 1 (by kernel_rfl) ?_
                    refine evs_op (st_len (c := c_Change) (l := l) (x := (.sl (List.map c_Change l))) (by kernel_rfl) (by kernel_rfl)) ?_
                    refine evs_run 5 (by kernel_rfl) ?_
                    refine evs_endS (by kernel_rfl) (fun τ hτ => ?_)
                    obtain rfl := Option.some.inj h
                    exact leafC hτ (here (by kernel_rfl))
                  · replace h := iteF hb h
                    refine evs_run 7 (by kernel_rfl) ?_
                    refine evs_endS (by kernel_rfl) (fun τ hτ => ?_)
                    obtain rfl := Option.some.inj h
                    exact leafC hτ (here (by kernel_rfl))
              · replace h := iteF hb h
                refine evs_run 15 (by kernel_rfl) ?_
                refine evs_endS (by kernel_rfl) (fun τ hτ => ?_)
                obtain rfl := Option.some.inj h
                exact leafC hτ (here (by kernel_rfl))
            refine th_normalS hτ ⟨[(7, (.sl (List.map (cS cI) x0.Needs))), (8, (vI x0.Stations)), (11, (vI r12.1)), (153, (vB j33))], []⟩ (here (by kernel_rfl)) ?_
            refine sem_cond j33 (by kernel_rfl) (by kernel_rfl) (fun hb => ?_) (fun hb => ?_)
            · replace h := iteT hb h
              refine sem_seq (by kernel_rfl) ?_
              refine sem_region (by kernel_rfl) ?_
              refine evs_run 1 (by kernel_rfl) ?_
              refine evs_endS (by kernel_rfl) (fun τ hτ => ?_)
              refine th_normalS hτ ⟨[(6, (vB false))], []⟩ (here (by kernel_rfl)) ?_
              refine sem_retS (by kernel_rfl) (fun τ hτ => ?_)
              refine th_ret ?_
              obtain rfl := Option.some.inj h
              exact rk_ret hτ [(6, (vB false))] (here (by kernel_rfl)) (by kernel_rfl)
            · replace h := iteF hb h
              refine sem_skipS (by kernel_rfl) (fun τ hτ => ?_)
              refine th_normalS hτ ⟨[(7, (.sl (List.map (cS cI) x0.Needs))), (8, (vI x0.Stations)), (11, (vI r12.1))], []⟩ (here (by kernel_rfl)) ?_
              refine sem_seq (by kernel_rfl) ?_
              refine sem_region (by kernel_rfl) ?_
              refine evs_run 1 (by kernel_rfl) ?_
              refine evs_at (at_buildS (es := (List.map (cS (cS cI)) [x0.Needs, []])) (by kernel_rfl)) ?_
              refine evs_run 1 (by kernel_rfl) ?_
              obtain ⟨r36, hr36, h⟩ := bindS h
              refine evs_callP [] (by kernel_rfl) (W.setup_Best_ok hr36) (by kernel_rfl) (.inl rfl) (by kernel_rfl) ?_
              refine evs_run 7 (by kernel_rfl) ?_
              refine evs_endS (by kernel_rfl) (fun τ hτ => ?_)
              refine th_normalS hτ ⟨[(11, (vI r12.1)), (20, (.sl (List.map cI r36.1))), (21, (vI r36.2.1)), (22, (vI r36.2.2))], []⟩ (here (by kernel_rfl)) ?_
              refine sem_seq (by kernel_rfl) ?_
              obtain ⟨j37, hj37, h⟩ := bindS h
              refine sem_regionC ⟨[(6, (vB j37))], []⟩ (by kernel_rfl) ?_ (fun τ hτ => ?_)
              · replace h := hj37
                refine evs_run 3 (by kernel_rfl) ?_
                refine evs_split (r36.2.2 == 0) (fun b0 => ⟨[(11, (vI r12.1)), (20, (.sl (List.map cI r36.1))), (21, (vI r36.2.1)), (164, (vB b0))], []⟩) (by kernel_rfl) (fun hb => ?_) (fun hb => ?_)
                · replace h := iteT hb h
                  refine evs_run 5 (by kernel_rfl) ?_
                  refine evs_split (r36.2.1 == r12.1) (fun b0 => ⟨[(20, (.sl (List.map cI r36.1))), (169, (vB b0))], []⟩) (by kernel_rfl) (fun hb => ?_) (fun hb => ?_)
                  · replace h := iteT hb h
                    refine evs_run 1 (by kernel_rfl) ?_
                    refine evs_op (st_len (c := cI) (l := r36.1) (x := (.sl (List.map cI r36.1))) (by kernel_rfl) (by kernel_rfl)) ?_
                    refine evs_run 3 (by kernel_rfl) ?_
                    refine evs_endS (by kernel_rfl) (fun τ hτ => ?_)
                    obtain rfl := Option.some.inj h
                    exact leafC hτ (here (by kernel_rfl))
                  · replace h := iteF hb h
                    refine evs_run 5 (by kernel_rfl) ?_
                    refine evs_endS (by kernel_rfl) (fun τ hτ => ?_)
                    obtain rfl := Option.some.inj h
                    exact leafC hτ (here (by kernel_rfl))
                · replace h := iteF hb h
                  refine evs_run 10 (by kernel_rfl) ?_
                  refine evs_endS (by kernel_rfl) (fun τ hτ => ?_)
                  obtain rfl := Option.some.inj h
                  exact leafC hτ (here (by kernel_rfl))
              refine th_normalS hτ ⟨[(6, (vB j37))], []⟩ (here (by kernel_rfl)) ?_
              refine sem_retS (by kernel_rfl) (fun τ hτ => ?_)
              obtain rfl := Option.some.inj h
              exact rk_ret hτ [(6, (vB j37))] (here (by kernel_rfl)) (by kernel_rfl)
end Go.Proofs.Ytppmnjiibmomoaa
