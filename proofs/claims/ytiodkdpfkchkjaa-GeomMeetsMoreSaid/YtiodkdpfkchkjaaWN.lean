/- Each Go function does what its model says; written by a program out of the translation. -/
import Derived.Test.YtiodkdpfkchkjaaBase
import Derived.Test.YtiodkdpfkchkjaaGeMN
set_option linter.unusedVariables false
set_option linter.unusedSimpArgs false
set_option linter.unusedSectionVars false
namespace Go.Proofs.Ytiodkdpfkchkjaa
open Go Go.VI Go.SM Go.Proofs
set_option maxRecDepth 100000
set_option maxHeartbeats 4000000
theorem W.geom_within_ok {n : Int} {most : Int} {r : Bool} (h : geom_within n most = some r) : PC G.P 58 [(vI n), (vI most)] [] (vB r) [] := by
 refine pc_of G (fn := Try.f58) Try.func58 (by kernel_rfl) (by kernel_rfl) (by kernel_rfl) (by kernel_rfl) (by kernel_rfl) ?_
 refine sem_set ⟨[(0, (vI n)), (1, (vI most))], []⟩ (by kernel_rfl) ?_
 refine z3 1 ⟨[(0, (vI n)), (1, (vI most))], []⟩ (by kernel_rfl) ?_
 refine sem_seq (by kernel_rfl) ?_
 obtain ⟨j1, hj1, h⟩ := bindS h
 refine sem_regionC ⟨[(4, (vB j1))], []⟩ (by kernel_rfl) ?_ (fun τ hτ => ?_)
 ·replace h := hj1
  refine evs_run 5 (by kernel_rfl) ?_
  refine evs_split (decide ((ineg most) ≤ n)) (fun b0 => ⟨[(0, (vI n)), (1, (vI most)), (9, (vB b0))], []⟩) (by kernel_rfl) (fun hb => ?_) (fun hb => ?_)
  ·replace h := iteT hb h
   refine z6 5 (by kernel_rfl) (fun τ hτ => ?_)
   obtain rfl := Option.some.inj h
   exact leafC hτ (here (by kernel_rfl))
  ·replace h := iteF hb h
   refine z6 5 (by kernel_rfl) (fun τ hτ => ?_)
   obtain rfl := Option.some.inj h
   exact leafC hτ (here (by kernel_rfl))
 refine th_normalS hτ ⟨[(4, (vB j1))], []⟩ (here (by kernel_rfl)) ?_
 refine sem_retS (by kernel_rfl) (fun τ hτ => ?_)
 obtain rfl := Option.some.inj h
 exact rk_ret hτ [(4, (vB j1))] (here (by kernel_rfl)) (by kernel_rfl)
theorem W.geom_sign_ok {n : Int} {r : Int} (h : geom_sign n = some r) : PC G.P 100 [(vI n)] [] (vI r) [] := by
 refine pc_of G (fn := Try.f100) Try.func100 (by kernel_rfl) (by kernel_rfl) (by kernel_rfl) (by kernel_rfl) (by kernel_rfl) ?_
 refine sem_set ⟨[(0, (vI n))], []⟩ (by kernel_rfl) ?_
 refine z3 1 ⟨[(0, (vI n))], []⟩ (by kernel_rfl) ?_
 refine sem_seq (by kernel_rfl) ?_
 refine sem_block (by kernel_rfl) ?_
 refine z3 3 ⟨[(0, (vI n)), (3, (vB (decide (n < 0))))], []⟩ (by kernel_rfl) ?_
 refine sem_cond (decide (n < 0)) (by kernel_rfl) (by kernel_rfl) (fun hb => ?_) (fun hb => ?_)
 ·replace h := iteT hb h
  refine z8 1 ⟨[(2, (vI (-1)))], []⟩ (by kernel_rfl) (fun τ hτ => ?_)
  refine bl_ret ?_
  refine th_ret ?_
  obtain rfl := Option.some.inj h
  exact rk_ret hτ [(2, (vI (-1)))] (here (by kernel_rfl)) (by kernel_rfl)
 ·replace h := iteF hb h
  refine z3 3 ⟨[(6, (vB (decide (n > 0))))], []⟩ (by kernel_rfl) ?_
  refine sem_cond (decide (n > 0)) (by kernel_rfl) (by kernel_rfl) (fun hb => ?_) (fun hb => ?_)
  ·replace h := iteT hb h
   refine z8 1 ⟨[(2, (vI 1))], []⟩ (by kernel_rfl) (fun τ hτ => ?_)
   refine bl_ret ?_
   refine th_ret ?_
   obtain rfl := Option.some.inj h
   exact rk_ret hτ [(2, (vI 1))] (here (by kernel_rfl)) (by kernel_rfl)
  ·replace h := iteF hb h
   refine sem_skipS (by kernel_rfl) (fun τ hτ => ?_)
   refine bl_normal ?_
   refine th_normalS hτ ⟨[], []⟩ (here (by kernel_rfl)) ?_
   refine z8 1 ⟨[(2, (vI 0))], []⟩ (by kernel_rfl) (fun τ hτ => ?_)
   obtain rfl := Option.some.inj h
   exact rk_ret hτ [(2, (vI 0))] (here (by kernel_rfl)) (by kernel_rfl)
theorem W.geom_signOf_ok {r0 : Root} {r : Int} (h : geom_signOf r0 = some r) : PC G.P 59 [(.agg [(vI r0.A), (vI r0.B)])] [] (vI r) [] := by
 refine pc_of G (fn := Try.f59) Try.func59 (by kernel_rfl) (by kernel_rfl) (by kernel_rfl) (by kernel_rfl) (by kernel_rfl) ?_
 refine sem_set ⟨[(0, (.agg [(vI r0.A), (vI r0.B)]))], []⟩ (by kernel_rfl) ?_
 refine z3 2 ⟨[(1, (.ptr 1 0))], [(1, .box [(vI r0.A), (vI r0.B)])]⟩ (by kernel_rfl) ?_
 refine sem_seq (by kernel_rfl) ?_
 refine sem_drawN [] [] [] [] [] 5 (by kernel_rfl) (by kernel_rfl) (by kernel_rfl) ?_
 refine evd_run 2 (by kernel_rfl) ?_
 obtain ⟨r5, hr5, h⟩ := bindS h
 refine evd_callS [] [] (by kernel_rfl) (by kernel_rfl) (W.geom_sign_ok hr5) (by kernel_rfl) (.inl rfl) (by kernel_rfl) (by kernel_rfl) ?_
 refine evd_run 2 (by kernel_rfl) ?_
 refine evd_end (by kernel_rfl) ?_
 obtain ⟨r6, hr6, h⟩ := bindS h
 refine evo_callP [] (by kernel_rfl) (W.geom_sign_ok hr6) (by kernel_rfl) (.inl rfl) (by kernel_rfl) ?_
 refine evo_run 2 (by kernel_rfl) ?_
 refine evo_endS (by kernel_rfl) (fun τ hτ => ?_)
 refine th_normalS hτ ⟨[(1, (.ptr 1 0)), (3, (vI r5)), (4, (vI r6))], [(1, .box [(vI r0.A), (vI r0.B)])]⟩ (here (by kernel_rfl)) ?_
 refine sem_seq (by kernel_rfl) ?_
 refine z3 4 ⟨[(1, (.ptr 1 0)), (3, (vI r5)), (4, (vI r6)), (14, (vB (decide ((imul r5 r6) ≥ 0))))], [(1, .box [(vI r0.A), (vI r0.B)])]⟩ (by kernel_rfl) ?_
 refine sem_cond (decide ((imul r5 r6) ≥ 0)) (by kernel_rfl) (by kernel_rfl) (fun hb => ?_) (fun hb => ?_)
 ·replace h := iteT hb h
  refine z7 (by kernel_rfl) ?_
  refine evs_run 3 (by kernel_rfl) ?_
  obtain ⟨r10, hr10, h⟩ := bindS h
  refine evs_callP [] (by kernel_rfl) (W.geom_sign_ok hr10) (by kernel_rfl) (.inl rfl) (by kernel_rfl) ?_
  refine z1 1 ⟨[(2, (vI r10))], []⟩ (by kernel_rfl) ?_
  refine sem_retS (by kernel_rfl) (fun τ hτ => ?_)
  refine th_ret ?_
  obtain rfl := Option.some.inj h
  exact rk_ret hτ [(2, (vI r10))] (here (by kernel_rfl)) (by kernel_rfl)
 ·replace h := iteF hb h
  refine z4 ⟨[(1, (.ptr 1 0)), (3, (vI r5))], [(1, .box [(vI r0.A), (vI r0.B)])]⟩ (by kernel_rfl) ?_
  refine z7 (by kernel_rfl) ?_
  refine evs_run 13 (by kernel_rfl) ?_
  obtain ⟨r12, hr12, h⟩ := bindS h
  refine evs_callP [] (by kernel_rfl) (W.geom_sign_ok hr12) (by kernel_rfl) (.inl rfl) (by kernel_rfl) ?_
  refine z1 2 ⟨[(2, (vI (imul r5 r12)))], []⟩ (by kernel_rfl) ?_
  refine sem_retS (by kernel_rfl) (fun τ hτ => ?_)
  obtain rfl := Option.some.inj h
  exact rk_ret hτ [(2, (vI (imul r5 r12)))] (here (by kernel_rfl)) (by kernel_rfl)
theorem W.geom_SignRoot_ok {r0 : Root} {r : Int × Int} (h : geom_SignRoot r0 = some r) : PC G.P 17 [(.agg [(vI r0.A), (vI r0.B)])] [] (.tup [(vI r.1), (vI r.2)]) [] := by
 refine pc_of G (fn := Try.f17) Try.func17 (by kernel_rfl) (by kernel_rfl) (by kernel_rfl) (by kernel_rfl) (by kernel_rfl) ?_
 refine sem_set ⟨[(0, (.agg [(vI r0.A), (vI r0.B)]))], []⟩ (by kernel_rfl) ?_
 refine z3 3 ⟨[(1, (.ptr 1 0))], [(1, .box [(vI r0.A), (vI r0.B)])]⟩ (by kernel_rfl) ?_
 refine sem_seq (by kernel_rfl) ?_
 refine sem_seq (by kernel_rfl) ?_
 obtain ⟨j8, hj8, h⟩ := bindS h
 refine sem_regionC ⟨[(1, (.ptr 500000 0)), (13, (vB j8))], [(500000, .box [(vI r0.A), (vI r0.B)])]⟩ (by kernel_rfl) ?_ (fun τ hτ => ?_)
 ·replace h := hj8
  refine evs_run 2 (by kernel_rfl) ?_
  obtain ⟨r9, hr9, h⟩ := bindS h
  refine evs_callP [] (by kernel_rfl) (W.geom_within_ok hr9) (by kernel_rfl) (.inl rfl) (by kernel_rfl) ?_
  refine evs_run 2 (by kernel_rfl) ?_
  refine evs_split r9 (fun b0 => ⟨[(1, (.ptr 1 0)), (8, (vB (!b0)))], [(1, .box [(vI r0.A), (vI r0.B)])]⟩) (by kernel_rfl) (fun hb => ?_) (fun hb => ?_)
  ·replace h := iteT hb h
   refine evs_run 2 (by kernel_rfl) ?_
   obtain ⟨r10, hr10, h⟩ := bindS h
   refine evs_callP [] (by kernel_rfl) (W.geom_within_ok hr10) (by kernel_rfl) (.inl rfl) (by kernel_rfl) ?_
   refine z6 2 (by kernel_rfl) (fun τ hτ => ?_)
   obtain rfl := Option.some.inj h
   exact leafC hτ (subR_prep [] [(1, 500000)] (by kernel_rfl) rfl rfl (by kernel_rfl))
  ·replace h := iteF hb h
   refine z6 5 (by kernel_rfl) (fun τ hτ => ?_)
   obtain rfl := Option.some.inj h
   exact leafC hτ (subR_prep [] [(1, 500000)] (by kernel_rfl) rfl rfl (by kernel_rfl))
 refine th_normalS hτ ⟨[(1, (.ptr 500000 0)), (13, (vB j8))], [(500000, .box [(vI r0.A), (vI r0.B)])]⟩ (here (by kernel_rfl)) ?_
 refine sem_cond j8 (by kernel_rfl) (by kernel_rfl) (fun hb => ?_) (fun hb => ?_)
 ·replace h := iteT hb h
  refine z8 2 ⟨[(2, (vI 0)), (3, (vI 4))], []⟩ (by kernel_rfl) (fun τ hτ => ?_)
  refine th_ret ?_
  obtain rfl := Option.some.inj h
  exact rk_ret hτ [(2, (vI 0)), (3, (vI 4))] (here (by kernel_rfl)) (by kernel_rfl)
 ·replace h := iteF hb h
  refine z4 ⟨[(1, (.ptr 500000 0))], [(500000, .box [(vI r0.A), (vI r0.B)])]⟩ (by kernel_rfl) ?_
  refine z7 (by kernel_rfl) ?_
  refine evs_run 1 (by kernel_rfl) ?_
  obtain ⟨r12, hr12, h⟩ := bindS h
  refine evs_callP [] (by kernel_rfl) (W.geom_signOf_ok hr12) (by kernel_rfl) (.inl rfl) (by kernel_rfl) ?_
  refine z1 2 ⟨[(2, (vI r12)), (3, (vI 0))], []⟩ (by kernel_rfl) ?_
  refine sem_retS (by kernel_rfl) (fun τ hτ => ?_)
  obtain rfl := Option.some.inj h
  exact rk_ret hτ [(2, (vI r12)), (3, (vI 0))] (here (by kernel_rfl)) (by kernel_rfl)
theorem W.geom_minus_ok {a : Root} {b : Root} {r : Root} (h : geom_minus a b = some r) : PC G.P 62 [(.agg [(vI a.A), (vI a.B)]), (.agg [(vI b.A), (vI b.B)])] [] (.agg [(vI r.A), (vI r.B)]) [(0, .box [(vI (isub a.A b.A)), (vI (isub a.B b.B))])] := by
 refine pc_of G (fn := Try.f62) Try.func62 (by kernel_rfl) (by kernel_rfl) (by kernel_rfl) (by kernel_rfl) (by kernel_rfl) ?_
 refine sem_set ⟨[(0, (.agg [(vI a.A), (vI a.B)])), (1, (.agg [(vI b.A), (vI b.B)]))], []⟩ (by kernel_rfl) ?_
 refine z3 3 ⟨[(2, (.ptr 2 0)), (3, (.ptr 3 0)), (4, (.ptr 4 0))], [(2, .box [(vI a.A), (vI a.B)]), (3, .box [(vI b.A), (vI b.B)]), (4, .box [(vI 0), (vI 0)])]⟩ (by kernel_rfl) ?_
 refine z8 12 ⟨[(4, (.ptr 4 0))], [(4, .box [(vI (isub a.A b.A)), (vI (isub a.B b.B))])]⟩ (by kernel_rfl) (fun τ hτ => ?_)
 obtain rfl := Option.some.inj h
 exact rk_ret hτ [(4, (.ptr 0 0))] (subR_prep [] [(4, 0)] (by kernel_rfl) rfl rfl (by kernel_rfl)) (by kernel_rfl)
theorem W.geom_near_ok {s0 : Spot} {r : Bool} (h : geom_near s0 = some r) : PC G.P 66 [(.agg [(vI s0.X), (vI s0.Y)])] [] (vB r) [] := by
 refine pc_of G (fn := Try.f66) Try.func66 (by kernel_rfl) (by kernel_rfl) (by kernel_rfl) (by kernel_rfl) (by kernel_rfl) ?_
 refine sem_set ⟨[(0, (.agg [(vI s0.X), (vI s0.Y)]))], []⟩ (by kernel_rfl) ?_
 refine z3 2 ⟨[(1, (.ptr 1 0))], [(1, .box [(vI s0.X), (vI s0.Y)])]⟩ (by kernel_rfl) ?_
 refine sem_seq (by kernel_rfl) ?_
 obtain ⟨j3, hj3, h⟩ := bindS h
 refine sem_regionC ⟨[(2, (vB j3))], []⟩ (by kernel_rfl) ?_ (fun τ hτ => ?_)
 ·replace h := hj3
  refine evs_run 2 (by kernel_rfl) ?_
  obtain ⟨r4, hr4, h⟩ := bindS h
  refine evs_callP [] (by kernel_rfl) (W.geom_within_ok hr4) (by kernel_rfl) (.inl rfl) (by kernel_rfl) ?_
  refine evs_run 1 (by kernel_rfl) ?_
  refine evs_split r4 (fun b0 => ⟨[(1, (.ptr 1 0)), (6, (vB b0))], [(1, .box [(vI s0.X), (vI s0.Y)])]⟩) (by kernel_rfl) (fun hb => ?_) (fun hb => ?_)
  ·replace h := iteT hb h
   refine evs_run 2 (by kernel_rfl) ?_
   obtain ⟨r5, hr5, h⟩ := bindS h
   refine evs_callP [] (by kernel_rfl) (W.geom_within_ok hr5) (by kernel_rfl) (.inl rfl) (by kernel_rfl) ?_
   refine z6 2 (by kernel_rfl) (fun τ hτ => ?_)
   obtain rfl := Option.some.inj h
   exact leafC hτ (here (by kernel_rfl))
  ·replace h := iteF hb h
   refine z6 5 (by kernel_rfl) (fun τ hτ => ?_)
   obtain rfl := Option.some.inj h
   exact leafC hτ (here (by kernel_rfl))
 refine th_normalS hτ ⟨[(2, (vB j3))], []⟩ (here (by kernel_rfl)) ?_
 refine sem_retS (by kernel_rfl) (fun τ hτ => ?_)
 obtain rfl := Option.some.inj h
 exact rk_ret hτ [(2, (vB j3))] (here (by kernel_rfl)) (by kernel_rfl)
theorem W.geom_cosine_ok {k : Int} {r : Root × Int × Int} (h : geom_cosine k = some r) : PC G.P 101 [(vI k)] [] (.agg [(vI r.1.A), (vI r.1.B)]) [(0, .box [(vI r.2.1), (vI r.2.2)])] := by
 refine pc_of G (fn := Try.f101) Try.func101 (by kernel_rfl) (by kernel_rfl) (by kernel_rfl) (by kernel_rfl) (by kernel_rfl) ?_
 refine sem_set ⟨[(0, (vI k))], []⟩ (by kernel_rfl) ?_
 refine z3 1 ⟨[(0, (vI k)), (2, (.ptr 2 0))], [(2, .box [(vI 0), (vI 0)])]⟩ (by kernel_rfl) ?_
 refine z3 15 ⟨[(0, (vI k)), (2, (.ptr 2 0)), (3, (.ptr 3 0))], [(2, .box [(vI 0), (vI 0)]), (3, .box [(vI 2), (vI 0), (vI 0), (vI 1), (vI 1), (vI 0), (vI 0), (vI 0), (vI (-1)), (vI 0), (vI 0), (vI (-1)), (vI (-2)), (vI 0), (vI 0), (vI (-1)), (vI (-1)), (vI 0), (vI 0), (vI 0), (vI 1), (vI 0), (vI 0), (vI 1)])]⟩ (by kernel_rfl) ?_
 refine z7 (by kernel_rfl) ?_
 refine evs_run 2 (by kernel_rfl) ?_
 obtain ⟨x2, hx2, h⟩ := bindS h
 refine evs_op (st_pax (i := (Int.tmod k 12)) (n := 12) (sz := 2) (kd := .i64) (p := (.ptr 3 0)) (q := (.ptr 3 (0 + (Int.toNat (Int.tmod k 12)) * 2))) (by kernel_rfl) (idxS hx2).1 (idx_lt0 hx2 (n := 12) rfl) rfl) ?_
 refine evs_op (st_pld0 (c := c_Root) (l := [(Root.mk 2 0), (Root.mk 0 1), (Root.mk 1 0), (Root.mk 0 0), (Root.mk (-1) 0), (Root.mk 0 (-1)), (Root.mk (-2) 0), (Root.mk 0 (-1)), (Root.mk (-1) 0), (Root.mk 0 0), (Root.mk 1 0), (Root.mk 0 1)]) (i := (Int.tmod k 12)) (esz := 2) (x := x2) (v := (.agg [(vI x2.A), (vI x2.B)])) (agg := true) (sz := 2) (g := 3) (cs := [(vI 2), (vI 0), (vI 0), (vI 1), (vI 1), (vI 0), (vI 0), (vI 0), (vI (-1)), (vI 0), (vI 0), (vI (-1)), (vI (-2)), (vI 0), (vI 0), (vI (-1)), (vI (-1)), (vI 0), (vI 0), (vI 0), (vI 1), (vI 0), (vI 0), (vI 1)]) (by kernel_rfl) (by kernel_rfl) (by kernel_rfl) hx2 (fun _ => rfl) (by kernel_rfl)) ?_
 refine z1 1 ⟨[(2, (.ptr 2 0))], [(2, .box [(vI x2.A), (vI x2.B)])]⟩ (by kernel_rfl) ?_
 refine sem_retS (by kernel_rfl) (fun τ hτ => ?_)
 obtain rfl := Option.some.inj h
 exact rk_ret hτ [(2, (.ptr 0 0))] (subR_prep [] [(2, 0)] (by kernel_rfl) rfl rfl (by kernel_rfl)) (by kernel_rfl)
theorem W.geom_turned_ok {s0 : Spot} {k : Int} {r : Point × Int × Int × Int × Int} (h : geom_turned s0 k = some r) : PC G.P 67 [(.agg [(vI s0.X), (vI s0.Y)]), (vI k)] [] (.agg [(vI r.1.X.A), (vI r.1.X.B), (vI r.1.Y.A), (vI r.1.Y.B)]) [(0, .box [(vI r.2.1), (vI r.2.2.1), (vI r.2.2.2.1), (vI r.2.2.2.2)])] := by
 refine pc_of G (fn := Try.f67) Try.func67 (by kernel_rfl) (by kernel_rfl) (by kernel_rfl) (by kernel_rfl) (by kernel_rfl) ?_
 refine sem_set ⟨[(0, (.agg [(vI s0.X), (vI s0.Y)])), (1, (vI k))], []⟩ (by kernel_rfl) ?_
 refine z3 2 ⟨[(1, (vI k)), (2, (.ptr 2 0)), (4, (.ptr 4 0))], [(2, .box [(vI s0.X), (vI s0.Y)]), (4, .box [(vI 0), (vI 0), (vI 0), (vI 0)])]⟩ (by kernel_rfl) ?_
 refine z7 (by kernel_rfl) ?_
 refine evs_run 1 (by kernel_rfl) ?_
 obtain ⟨r3, hr3, h⟩ := bindS h
 refine evs_callS [] [(0, 700050)] [] (by kernel_rfl) (W.geom_cosine_ok hr3) (by kernel_rfl) (by kernel_rfl) (.inl rfl) ?_
 refine evs_run 2 (by kernel_rfl) ?_
 obtain ⟨r4, hr4, h⟩ := bindS h
 refine evs_callS [] [(0, 700200)] [] (by kernel_rfl) (W.geom_cosine_ok hr4) (by kernel_rfl) (by kernel_rfl) (.inl rfl) ?_
 refine z1 4 ⟨[(2, (.ptr 2 0)), (4, (.ptr 4 0)), (5, (.ptr 5 0)), (6, (.ptr 6 0))], [(2, .box [(vI s0.X), (vI s0.Y)]), (4, .box [(vI 0), (vI 0), (vI 0), (vI 0)]), (5, .box [(vI r3.1.A), (vI r3.1.B)]), (6, .box [(vI r4.1.A), (vI r4.1.B)])]⟩ (by kernel_rfl) ?_
 refine z8 48 ⟨[(4, (.ptr 4 0))], [(4, .box [(vI (isub (imul s0.X r3.1.A) (imul s0.Y r4.1.A))), (vI (isub (imul s0.X r3.1.B) (imul s0.Y r4.1.B))), (vI (iadd (imul s0.X r4.1.A) (imul s0.Y r3.1.A))), (vI (iadd (imul s0.X r4.1.B) (imul s0.Y r3.1.B)))])]⟩ (by kernel_rfl) (fun τ hτ => ?_)
 obtain rfl := Option.some.inj h
 exact rk_ret hτ [(4, (.ptr 0 0))] (subR_prep [] [(4, 0)] (by kernel_rfl) rfl rfl (by kernel_rfl)) (by kernel_rfl)
theorem W.geom_Turn_ok {s0 : Spot} {k : Int} {r : Point × Int × Int × Int × Int × Int} (h : geom_Turn s0 k = some r) : PC G.P 24 [(.agg [(vI s0.X), (vI s0.Y)]), (vI k)] [] (.tup [(.agg [(vI r.1.X.A), (vI r.1.X.B), (vI r.1.Y.A), (vI r.1.Y.B)]), (vI r.2.1)]) [(0, .box [(vI r.2.2.1), (vI r.2.2.2.1), (vI r.2.2.2.2.1), (vI r.2.2.2.2.2)])] := by
 refine pc_of G (fn := Try.f24) Try.func24 (by kernel_rfl) (by kernel_rfl) (by kernel_rfl) (by kernel_rfl) (by kernel_rfl) ?_
 refine sem_set ⟨[(0, (.agg [(vI s0.X), (vI s0.Y)])), (1, (vI k))], []⟩ (by kernel_rfl) ?_
 refine z3 3 ⟨[(1, (vI k)), (2, (.ptr 2 0)), (4, (.ptr 4 0))], [(2, .box [(vI s0.X), (vI s0.Y)]), (4, .box [(vI 0), (vI 0), (vI 0), (vI 0)])]⟩ (by kernel_rfl) ?_
 refine sem_seq (by kernel_rfl) ?_
 refine sem_seq (by kernel_rfl) ?_
 obtain ⟨j5, hj5, h⟩ := bindS h
 refine sem_regionC ⟨[(1, (vI k)), (2, (.ptr 500000 0)), (4, (.ptr 500001 0)), (16, (vB j5))], [(500000, .box [(vI s0.X), (vI s0.Y)]), (500001, .box [(vI 0), (vI 0), (vI 0), (vI 0)])]⟩ (by kernel_rfl) ?_ (fun τ hτ => ?_)
 ·replace h := hj5
  refine evs_run 1 (by kernel_rfl) ?_
  obtain ⟨r6, hr6, h⟩ := bindS h
  refine evs_callP [] (by kernel_rfl) (W.geom_near_ok hr6) (by kernel_rfl) (.inl rfl) (by kernel_rfl) ?_
  refine evs_run 2 (by kernel_rfl) ?_
  refine evs_split r6 (fun b0 => ⟨[(1, (vI k)), (2, (.ptr 2 0)), (4, (.ptr 4 0)), (9, (vB (!b0)))], [(2, .box [(vI s0.X), (vI s0.Y)]), (4, .box [(vI 0), (vI 0), (vI 0), (vI 0)])]⟩) (by kernel_rfl) (fun hb => ?_) (fun hb => ?_)
  ·replace h := iteT hb h
   refine evs_run 4 (by kernel_rfl) ?_
   refine evs_split (decide (k < 0)) (fun b0 => ⟨[(1, (vI k)), (2, (.ptr 2 0)), (4, (.ptr 4 0)), (13, (vB b0))], [(2, .box [(vI s0.X), (vI s0.Y)]), (4, .box [(vI 0), (vI 0), (vI 0), (vI 0)])]⟩) (by kernel_rfl) (fun hb => ?_) (fun hb => ?_)
   ·replace h := iteT hb h
    refine z6 3 (by kernel_rfl) (fun τ hτ => ?_)
    obtain rfl := Option.some.inj h
    exact leafC hτ (subR_prep [] [(2, 500000), (4, 500001)] (by kernel_rfl) rfl rfl (by kernel_rfl))
   ·replace h := iteF hb h
    refine z6 3 (by kernel_rfl) (fun τ hτ => ?_)
    obtain rfl := Option.some.inj h
    exact leafC hτ (subR_prep [] [(2, 500000), (4, 500001)] (by kernel_rfl) rfl rfl (by kernel_rfl))
  ·replace h := iteF hb h
   refine z6 7 (by kernel_rfl) (fun τ hτ => ?_)
   obtain rfl := Option.some.inj h
   exact leafC hτ (subR_prep [] [(2, 500000), (4, 500001)] (by kernel_rfl) rfl rfl (by kernel_rfl))
 refine th_normalS hτ ⟨[(1, (vI k)), (2, (.ptr 500000 0)), (4, (.ptr 500001 0)), (16, (vB j5))], [(500000, .box [(vI s0.X), (vI s0.Y)]), (500001, .box [(vI 0), (vI 0), (vI 0), (vI 0)])]⟩ (here (by kernel_rfl)) ?_
 refine sem_cond j5 (by kernel_rfl) (by kernel_rfl) (fun hb => ?_) (fun hb => ?_)
 ·replace h := iteT hb h
  refine z8 3 ⟨[(4, (.ptr 500001 0)), (5, (vI 1))], [(500001, .box [(vI 0), (vI 0), (vI 0), (vI 0)])]⟩ (by kernel_rfl) (fun τ hτ => ?_)
  refine th_ret ?_
  obtain rfl := Option.some.inj h
  exact rk_ret hτ [(4, (.ptr 0 0)), (5, (vI 1))] (subR_prep [] [(500001, 0)] (by kernel_rfl) rfl rfl (by kernel_rfl)) (by kernel_rfl)
 ·replace h := iteF hb h
  refine z4 ⟨[(1, (vI k)), (2, (.ptr 500000 0)), (4, (.ptr 500001 0))], [(500000, .box [(vI s0.X), (vI s0.Y)]), (500001, .box [(vI 0), (vI 0), (vI 0), (vI 0)])]⟩ (by kernel_rfl) ?_
  refine z7 (by kernel_rfl) ?_
  refine evs_run 2 (by kernel_rfl) ?_
  obtain ⟨r8, hr8, h⟩ := bindS h
  refine evs_callS [] [(0, 700100)] [] (by kernel_rfl) (W.geom_turned_ok hr8) (by kernel_rfl) (by kernel_rfl) (.inl rfl) ?_
  refine z1 2 ⟨[(4, (.ptr 500001 0)), (5, (vI 0))], [(500001, .box [(vI r8.1.X.A), (vI r8.1.X.B), (vI r8.1.Y.A), (vI r8.1.Y.B)])]⟩ (by kernel_rfl) ?_
  refine sem_retS (by kernel_rfl) (fun τ hτ => ?_)
  obtain rfl := Option.some.inj h
  exact rk_ret hτ [(4, (.ptr 0 0)), (5, (vI 0))] (subR_prep [] [(500001, 0)] (by kernel_rfl) rfl rfl (by kernel_rfl)) (by kernel_rfl)
theorem W.sheetmetallaw01_known_ok {r : Bool} (h : sheetmetallaw01_known = some r) : PC G.P 21 [] [] (vB r) [] := by
 refine pc_of G (fn := Try.f21) Try.func21 (by kernel_rfl) (by kernel_rfl) (by kernel_rfl) (by kernel_rfl) (by kernel_rfl) ?_
 refine sem_set ⟨[], []⟩ (by kernel_rfl) ?_
 refine z3 1 ⟨[], []⟩ (by kernel_rfl) ?_
 refine z7 (by kernel_rfl) ?_
 refine evs_run 1 (by kernel_rfl) ?_
 obtain ⟨r2, hr2, h⟩ := bindS h
 refine evs_callP [] (by kernel_rfl) (W.geom_SignRoot_ok hr2) (by kernel_rfl) (.inl rfl) (by kernel_rfl) ?_
 refine z1 5 ⟨[(1, (vI r2.1)), (2, (vI r2.2))], []⟩ (by kernel_rfl) ?_
 refine z7 (by kernel_rfl) ?_
 refine evs_run 1 (by kernel_rfl) ?_
 obtain ⟨r4, hr4, h⟩ := bindS h
 refine evs_callS [] [(0, 700050)] [] (by kernel_rfl) (W.geom_Turn_ok hr4) (by kernel_rfl) (by kernel_rfl) (.inl rfl) ?_
 refine z1 6 ⟨[(1, (vI r2.1)), (2, (vI r2.2)), (3, (.ptr 3 0)), (4, (vI r4.2.1))], [(3, .box [(vI r4.1.X.A), (vI r4.1.X.B), (vI r4.1.Y.A), (vI r4.1.Y.B)])]⟩ (by kernel_rfl) ?_
 refine sem_seq (by kernel_rfl) ?_
 obtain ⟨j5, hj5, h⟩ := bindS h
 refine sem_regionC ⟨[(0, (vB j5))], []⟩ (by kernel_rfl) ?_ (fun τ hτ => ?_)
 ·replace h := hj5
  refine evs_run 3 (by kernel_rfl) ?_
  refine evs_split (r2.2 == 0) (fun b0 => ⟨[(1, (vI r2.1)), (3, (.ptr 3 0)), (4, (vI r4.2.1)), (17, (vB b0))], [(3, .box [(vI r4.1.X.A), (vI r4.1.X.B), (vI r4.1.Y.A), (vI r4.1.Y.B)])]⟩) (by kernel_rfl) (fun hb => ?_) (fun hb => ?_)
  ·replace h := iteT hb h
   refine evs_run 4 (by kernel_rfl) ?_
   refine evs_split (r2.1 == 1) (fun b0 => ⟨[(3, (.ptr 3 0)), (4, (vI r4.2.1)), (21, (vB b0))], [(3, .box [(vI r4.1.X.A), (vI r4.1.X.B), (vI r4.1.Y.A), (vI r4.1.Y.B)])]⟩) (by kernel_rfl) (fun hb => ?_) (fun hb => ?_)
   ·replace h := iteT hb h
    refine evs_run 4 (by kernel_rfl) ?_
    refine evs_split (r4.2.1 == 0) (fun b0 => ⟨[(3, (.ptr 3 0)), (25, (vB b0))], [(3, .box [(vI r4.1.X.A), (vI r4.1.X.B), (vI r4.1.Y.A), (vI r4.1.Y.B)])]⟩) (by kernel_rfl) (fun hb => ?_) (fun hb => ?_)
    ·replace h := iteT hb h
     refine evs_run 6 (by kernel_rfl) ?_
     refine evs_split ((r4.1.X.A == 0) && ((r4.1.X.B == 2) && true)) (fun b0 => ⟨[(3, (.ptr 3 0)), (31, (vB b0))], [(3, .box [(vI r4.1.X.A), (vI r4.1.X.B), (vI r4.1.Y.A), (vI r4.1.Y.B)])]⟩) (by kernel_rfl) (fun hb => ?_) (fun hb => ?_)
     ·replace h := iteT hb h
      refine z6 6 (by kernel_rfl) (fun τ hτ => ?_)
      obtain rfl := Option.some.inj h
      exact leafC hτ (here (by kernel_rfl))
     ·replace h := iteF hb h
      refine z6 6 (by kernel_rfl) (fun τ hτ => ?_)
      obtain rfl := Option.some.inj h
      exact leafC hτ (here (by kernel_rfl))
    ·replace h := iteF hb h
     refine z6 12 (by kernel_rfl) (fun τ hτ => ?_)
     obtain rfl := Option.some.inj h
     exact leafC hτ (here (by kernel_rfl))
   ·replace h := iteF hb h
    refine z6 16 (by kernel_rfl) (fun τ hτ => ?_)
    obtain rfl := Option.some.inj h
    exact leafC hτ (here (by kernel_rfl))
  ·replace h := iteF hb h
   refine z6 20 (by kernel_rfl) (fun τ hτ => ?_)
   obtain rfl := Option.some.inj h
   exact leafC hτ (here (by kernel_rfl))
 refine th_normalS hτ ⟨[(0, (vB j5))], []⟩ (here (by kernel_rfl)) ?_
 refine sem_retS (by kernel_rfl) (fun τ hτ => ?_)
 obtain rfl := Option.some.inj h
 exact rk_ret hτ [(0, (vB j5))] (here (by kernel_rfl)) (by kernel_rfl)
theorem W.geom_times_ok {a : Root} {b : Root} {r : Root} (h : geom_times a b = some r) : PC G.P 64 [(.agg [(vI a.A), (vI a.B)]), (.agg [(vI b.A), (vI b.B)])] [] (.agg [(vI r.A), (vI r.B)]) [(0, .box [(vI (iadd (imul a.A b.A) (imul (imul 3 a.B) b.B))), (vI (iadd (imul a.A b.B) (imul a.B b.A)))])] := by
 refine pc_of G (fn := Try.f64) Try.func64 (by kernel_rfl) (by kernel_rfl) (by kernel_rfl) (by kernel_rfl) (by kernel_rfl) ?_
 refine sem_set ⟨[(0, (.agg [(vI a.A), (vI a.B)])), (1, (.agg [(vI b.A), (vI b.B)]))], []⟩ (by kernel_rfl) ?_
 refine z3 3 ⟨[(2, (.ptr 2 0)), (3, (.ptr 3 0)), (4, (.ptr 4 0))], [(2, .box [(vI a.A), (vI a.B)]), (3, .box [(vI b.A), (vI b.B)]), (4, .box [(vI 0), (vI 0)])]⟩ (by kernel_rfl) ?_
 refine z8 25 ⟨[(4, (.ptr 4 0))], [(4, .box [(vI (iadd (imul a.A b.A) (imul (imul 3 a.B) b.B))), (vI (iadd (imul a.A b.B) (imul a.B b.A)))])]⟩ (by kernel_rfl) (fun τ hτ => ?_)
 obtain rfl := Option.some.inj h
 exact rk_ret hτ [(4, (.ptr 0 0))] (subR_prep [] [(4, 0)] (by kernel_rfl) rfl rfl (by kernel_rfl)) (by kernel_rfl)
theorem W.geom_small_ok {l : (List Point)} {r : Bool} (h : geom_small l = some r) : PC G.P 73 [(.sl (List.map c_Point l))] [] (vB r) [] := by
 refine pc_of G (fn := Try.f73) Try.func73 (by kernel_rfl) (by kernel_rfl) (by kernel_rfl) (by kernel_rfl) (by kernel_rfl) ?_
 refine sem_set ⟨[(0, (.sl (List.map c_Point l)))], []⟩ (by kernel_rfl) ?_
 refine z3 1 ⟨[(0, (.sl (List.map c_Point l)))], []⟩ (by kernel_rfl) ?_
 refine sem_seq (by kernel_rfl) ?_
 refine z7 (by kernel_rfl) ?_
 refine evs_run 1 (by kernel_rfl) ?_
 refine evs_op (st_len (c := c_Point) (l := l) (x := (.sl (List.map c_Point l))) (by kernel_rfl) (by kernel_rfl)) ?_
 refine z1 1 ⟨[(5, (.sl (List.map c_Point l))), (6, (vI (l.length : Int))), (7, (vI 0))], []⟩ (by kernel_rfl) ?_
 refine sem_block (by kernel_rfl) ?_
 obtain ⟨x140, hx140, h⟩ := bindS h
 refine sem_loopS (fun (s95 : Int) => ⟨[(5, (.sl (List.map c_Point l))), (6, (vI (l.length : Int))), (7, (vI s95))], []⟩) (fun (x140 : Unit ⊕ Unit) => match x140 with | .inl j141 => (.ret, ⟨[(2, (vB false))], []⟩) | .inr j142 => (.exit 0, ⟨[], []⟩)) (geom_small_l1 l) 0 x140 (by kernel_rfl) (here (by kernel_rfl)) hx140 ?_ ?_ ?_
 ·intro s95 r h
  refine z3 1 ⟨[(5, (.sl (List.map c_Point l))), (6, (vI (l.length : Int))), (7, (vI s95)), (8, (vB (decide (s95 < (l.length : Int)))))], []⟩ (by kernel_rfl) ?_
  refine sem_seq (by kernel_rfl) ?_
  refine sem_cond (decide (s95 < (l.length : Int))) (by kernel_rfl) (by kernel_rfl) (fun hb => ?_) (fun hb => ?_)
  ·replace h := iteT hb h
   refine z4 ⟨[(5, (.sl (List.map c_Point l))), (6, (vI (l.length : Int))), (7, (vI s95))], []⟩ (by kernel_rfl) ?_
   refine sem_seq (by kernel_rfl) ?_
   refine sem_block (by kernel_rfl) ?_
   refine z7 (by kernel_rfl) ?_
   obtain ⟨x130, hx130, h⟩ := bindS h
   refine evs_op (st_idx (c := c_Point) (l := l) (i := s95) (kd := .i64) (sz := 4) (by kernel_rfl) hx130 rfl) ?_
   refine z1 3 ⟨[(4, (.ptr 4 0)), (5, (.sl (List.map c_Point l))), (6, (vI (l.length : Int))), (7, (vI s95))], [(4, .box [(vI x130.X.A), (vI x130.X.B), (vI x130.Y.A), (vI x130.Y.B)])]⟩ (by kernel_rfl) ?_
   refine sem_seq (by kernel_rfl) ?_
   obtain ⟨j135, hj135, h⟩ := bindS h
   refine sem_regionC ⟨[(5, (.sl (List.map c_Point l))), (6, (vI (l.length : Int))), (7, (vI s95)), (36, (vB j135))], []⟩ (by kernel_rfl) ?_ (fun τ hτ => ?_)
   ·replace h := hj135
    refine evs_run 3 (by kernel_rfl) ?_
    obtain ⟨r136, hr136, h⟩ := bindS h
    refine evs_callP [] (by kernel_rfl) (W.geom_within_ok hr136) (by kernel_rfl) (.inl rfl) (by kernel_rfl) ?_
    refine evs_run 2 (by kernel_rfl) ?_
    refine evs_split r136 (fun b0 => ⟨[(4, (.ptr 4 0)), (5, (.sl (List.map c_Point l))), (6, (vI (l.length : Int))), (7, (vI s95)), (16, (vB (!b0)))], [(4, .box [(vI x130.X.A), (vI x130.X.B), (vI x130.Y.A), (vI x130.Y.B)])]⟩) (by kernel_rfl) (fun hb => ?_) (fun hb => ?_)
    ·replace h := iteT hb h
     refine evs_run 3 (by kernel_rfl) ?_
     obtain ⟨r137, hr137, h⟩ := bindS h
     refine evs_callP [] (by kernel_rfl) (W.geom_within_ok hr137) (by kernel_rfl) (.inl rfl) (by kernel_rfl) ?_
     refine evs_run 3 (by kernel_rfl) ?_
     refine evs_split r137 (fun b0 => ⟨[(4, (.ptr 4 0)), (5, (.sl (List.map c_Point l))), (6, (vI (l.length : Int))), (7, (vI s95)), (17, (.ptr 4 0)), (18, (.ptr 4 1)), (19, (vI x130.X.B)), (20, (vB b0)), (21, (vB (!b0))), (23, (vB (!b0)))], [(4, .box [(vI x130.X.A), (vI x130.X.B), (vI x130.Y.A), (vI x130.Y.B)])]⟩) (by kernel_rfl) (fun hb => ?_) (fun hb => ?_)
     ·replace h := iteT hb h
      refine evs_run 3 (by kernel_rfl) ?_
      obtain ⟨r138, hr138, h⟩ := bindS h
      refine evs_callP [] (by kernel_rfl) (W.geom_within_ok hr138) (by kernel_rfl) (.inl rfl) (by kernel_rfl) ?_
      refine evs_run 3 (by kernel_rfl) ?_
      refine evs_split r138 (fun b0 => ⟨[(4, (.ptr 4 0)), (5, (.sl (List.map c_Point l))), (6, (vI (l.length : Int))), (7, (vI s95)), (17, (.ptr 4 0)), (18, (.ptr 4 1)), (19, (vI x130.X.B)), (20, (vB true)), (21, (vB false)), (24, (.ptr 4 2)), (25, (.ptr 4 2)), (26, (vI x130.Y.A)), (27, (vB b0)), (28, (vB (!b0))), (30, (vB (!b0)))], [(4, .box [(vI x130.X.A), (vI x130.X.B), (vI x130.Y.A), (vI x130.Y.B)])]⟩) (by kernel_rfl) (fun hb => ?_) (fun hb => ?_)
      ·replace h := iteT hb h
       refine evs_run 3 (by kernel_rfl) ?_
       obtain ⟨r139, hr139, h⟩ := bindS h
       refine evs_callP [] (by kernel_rfl) (W.geom_within_ok hr139) (by kernel_rfl) (.inl rfl) (by kernel_rfl) ?_
       refine z6 2 (by kernel_rfl) (fun τ hτ => ?_)
       obtain rfl := Option.some.inj h
       exact leafC hτ (here (by kernel_rfl))
      ·replace h := iteF hb h
       refine z6 6 (by kernel_rfl) (fun τ hτ => ?_)
       obtain rfl := Option.some.inj h
       exact leafC hτ (here (by kernel_rfl))
     ·replace h := iteF hb h
      refine z6 13 (by kernel_rfl) (fun τ hτ => ?_)
      obtain rfl := Option.some.inj h
      exact leafC hτ (here (by kernel_rfl))
    ·replace h := iteF hb h
     refine z6 20 (by kernel_rfl) (fun τ hτ => ?_)
     obtain rfl := Option.some.inj h
     exact leafC hτ (here (by kernel_rfl))
   refine th_normalS hτ ⟨[(5, (.sl (List.map c_Point l))), (6, (vI (l.length : Int))), (7, (vI s95)), (36, (vB j135))], []⟩ (here (by kernel_rfl)) ?_
   refine sem_cond j135 (by kernel_rfl) (by kernel_rfl) (fun hb => ?_) (fun hb => ?_)
   ·replace h := iteT hb h
    refine z8 1 ⟨[(2, (vB false))], []⟩ (by kernel_rfl) (fun τ hτ => ?_)
    refine bl_ret ?_
    refine th_ret ?_
    obtain rfl := Option.some.inj h
    exact lk_outS hτ rfl (here (by kernel_rfl))
   ·replace h := iteF hb h
    refine sem_skipS (by kernel_rfl) (fun τ hτ => ?_)
    refine bl_normal ?_
    refine th_normalS hτ ⟨[(5, (.sl (List.map c_Point l))), (6, (vI (l.length : Int))), (7, (vI s95))], []⟩ (here (by kernel_rfl)) ?_
    refine sem_region (by kernel_rfl) ?_
    refine z6 2 (by kernel_rfl) (fun τ hτ => ?_)
    obtain rfl := Option.some.inj h
    exact lk_nextS hτ (here (by kernel_rfl))
  ·replace h := iteF hb h
   refine sem_exitS 0 (by kernel_rfl) rfl (fun τ hτ => ?_)
   refine th_exit ?_
   obtain rfl := Option.some.inj h
   exact lk_outS hτ rfl (here (by kernel_rfl))
 ·intro x
  rcases x with _ | _ <;> rfl
 ·intro τ hτ
  rcases x140 with j141 | j142
  ·refine bl_ret ?_
   refine th_ret ?_
   obtain rfl := Option.some.inj h
   exact rk_ret hτ [(2, (vB false))] (here (by kernel_rfl)) (by kernel_rfl)
  ·refine bl_hit (by kernel_rfl) ?_
   refine th_normalS hτ ⟨[], []⟩ (here (by kernel_rfl)) ?_
   refine z8 1 ⟨[(2, (vB true))], []⟩ (by kernel_rfl) (fun τ hτ => ?_)
   obtain rfl := Option.some.inj h
   exact rk_ret hτ [(2, (vB true))] (here (by kernel_rfl)) (by kernel_rfl)
theorem W.geom_orient_ok {a : Point} {b : Point} {c : Point} {r : Int} (h : geom_orient a b c = some r) : PC G.P 74 [(.agg [(vI a.X.A), (vI a.X.B), (vI a.Y.A), (vI a.Y.B)]), (.agg [(vI b.X.A), (vI b.X.B), (vI b.Y.A), (vI b.Y.B)]), (.agg [(vI c.X.A), (vI c.X.B), (vI c.Y.A), (vI c.Y.B)])] [] (vI r) [] := by
 refine pc_of G (fn := Try.f74) Try.func74 (by kernel_rfl) (by kernel_rfl) (by kernel_rfl) (by kernel_rfl) (by kernel_rfl) ?_
 refine sem_set ⟨[(0, (.agg [(vI a.X.A), (vI a.X.B), (vI a.Y.A), (vI a.Y.B)])), (1, (.agg [(vI b.X.A), (vI b.X.B), (vI b.Y.A), (vI b.Y.B)])), (2, (.agg [(vI c.X.A), (vI c.X.B), (vI c.Y.A), (vI c.Y.B)]))], []⟩ (by kernel_rfl) ?_
 refine z3 4 ⟨[(3, (.ptr 3 0)), (4, (.ptr 4 0)), (5, (.ptr 5 0))], [(3, .box [(vI a.X.A), (vI a.X.B), (vI a.Y.A), (vI a.Y.B)]), (4, .box [(vI b.X.A), (vI b.X.B), (vI b.Y.A), (vI b.Y.B)]), (5, .box [(vI c.X.A), (vI c.X.B), (vI c.Y.A), (vI c.Y.B)])]⟩ (by kernel_rfl) ?_
 refine sem_seq (by kernel_rfl) ?_
 refine sem_draw [(4, [700200]), (9, [700450]), (10, [700500]), (11, [7])] [(4, [700200]), (9, [700450]), (10, [700500]), (11, [7])] [] [(0, [7]), (1, [7]), (2, [7]), (3, [7]), (4, [7]), (5, [700200, 7]), (6, [700200, 7]), (7, [700200, 7]), (8, [700200, 7]), (9, [7]), (10, [7]), (11, [700200, 700450, 700500])] [(0, [700200, 700450, 700500, 7]), (1, [700200, 700450, 700500, 7]), (2, [700200, 700450, 700500, 7]), (3, [700200, 700450, 700500, 7]), (4, [700450, 700500, 7]), (5, [700200, 700450, 700500, 7]), (6, [700200, 700450, 700500, 7]), (7, [700200, 700450, 700500, 7]), (8, [700200, 700450, 700500, 7]), (9, [700500, 7]), (10, [7]), (11, [700200, 700450, 700500])] 12 (by kernel_rfl) (by kernel_rfl) [700200, 700450, 700500, 7] (by kernel_rfl) (by kernel_rfl) ?_
 refine evd_run 4 (by kernel_rfl) ?_
 obtain ⟨r7, hr7, h⟩ := bindS h
 refine evd_callS [(0, 700200)] [] (by kernel_rfl) (by kernel_rfl) (W.geom_minus_ok hr7) (by kernel_rfl) (.inl rfl) (by kernel_rfl) (by kernel_rfl) ?_
 refine evd_run 4 (by kernel_rfl) ?_
 obtain ⟨r8, hr8, h⟩ := bindS h
 refine evd_callS [(0, 700450)] [] (by kernel_rfl) (by kernel_rfl) (W.geom_minus_ok hr8) (by kernel_rfl) (.inl rfl) (by kernel_rfl) (by kernel_rfl) ?_
 obtain ⟨r9, hr9, h⟩ := bindS h
 refine evd_callS [(0, 700500)] [] (by kernel_rfl) (by kernel_rfl) (W.geom_times_ok hr9) (by kernel_rfl) (.inl rfl) (by kernel_rfl) (by kernel_rfl) ?_
 refine evd_new (g := 7) (ob := .box [(vI 0), (vI 0)]) (v := (.ptr 7 0)) (by kernel_rfl) (by kernel_rfl) (by kernel_rfl) (by kernel_rfl) (by kernel_rfl) (by kernel_rfl) ?_
 refine evd_end (by kernel_rfl) ?_
 refine evo_run 1 (by kernel_rfl) ?_
 refine evo_endS (by kernel_rfl) (fun τ hτ => ?_)
 refine th_normalS hτ ⟨[(3, (.ptr 3 0)), (4, (.ptr 4 0)), (5, (.ptr 5 0)), (7, (.ptr 7 0))], [(3, .box [(vI a.X.A), (vI a.X.B), (vI a.Y.A), (vI a.Y.B)]), (4, .box [(vI b.X.A), (vI b.X.B), (vI b.Y.A), (vI b.Y.B)]), (5, .box [(vI c.X.A), (vI c.X.B), (vI c.Y.A), (vI c.Y.B)]), (7, .box [(vI r9.A), (vI r9.B)])]⟩ (here (by kernel_rfl)) ?_
 refine sem_seq (by kernel_rfl) ?_
 refine sem_draw [(4, [700200]), (9, [700450]), (10, [700500]), (11, [8])] [(4, [700200]), (9, [700450]), (10, [700500]), (11, [8])] [] [(0, [8]), (1, [8]), (2, [8]), (3, [8]), (4, [8]), (5, [700200, 8]), (6, [700200, 8]), (7, [700200, 8]), (8, [700200, 8]), (9, [8]), (10, [8]), (11, [700200, 700450, 700500])] [(0, [700200, 700450, 700500, 8]), (1, [700200, 700450, 700500, 8]), (2, [700200, 700450, 700500, 8]), (3, [700200, 700450, 700500, 8]), (4, [700450, 700500, 8]), (5, [700200, 700450, 700500, 8]), (6, [700200, 700450, 700500, 8]), (7, [700200, 700450, 700500, 8]), (8, [700200, 700450, 700500, 8]), (9, [700500, 8]), (10, [8]), (11, [700200, 700450, 700500])] 12 (by kernel_rfl) (by kernel_rfl) [700200, 700450, 700500, 8] (by kernel_rfl) (by kernel_rfl) ?_
 refine evd_run 4 (by kernel_rfl) ?_
 obtain ⟨r16, hr16, h⟩ := bindS h
 refine evd_callS [(0, 700200)] [] (by kernel_rfl) (by kernel_rfl) (W.geom_minus_ok hr16) (by kernel_rfl) (.inl rfl) (by kernel_rfl) (by kernel_rfl) ?_
 refine evd_run 4 (by kernel_rfl) ?_
 obtain ⟨r17, hr17, h⟩ := bindS h
 refine evd_callS [(0, 700450)] [] (by kernel_rfl) (by kernel_rfl) (W.geom_minus_ok hr17) (by kernel_rfl) (.inl rfl) (by kernel_rfl) (by kernel_rfl) ?_
 obtain ⟨r18, hr18, h⟩ := bindS h
 refine evd_callS [(0, 700500)] [] (by kernel_rfl) (by kernel_rfl) (W.geom_times_ok hr18) (by kernel_rfl) (.inl rfl) (by kernel_rfl) (by kernel_rfl) ?_
 refine evd_new (g := 8) (ob := .box [(vI 0), (vI 0)]) (v := (.ptr 8 0)) (by kernel_rfl) (by kernel_rfl) (by kernel_rfl) (by kernel_rfl) (by kernel_rfl) (by kernel_rfl) ?_
 refine evd_end (by kernel_rfl) ?_
 refine evo_run 1 (by kernel_rfl) ?_
 refine evo_endS (by kernel_rfl) (fun τ hτ => ?_)
 refine th_normalS hτ ⟨[(7, (.ptr 7 0)), (8, (.ptr 8 0))], [(7, .box [(vI r9.A), (vI r9.B)]), (8, .box [(vI r18.A), (vI r18.B)])]⟩ (here (by kernel_rfl)) ?_
 refine z7 (by kernel_rfl) ?_
 refine evs_run 2 (by kernel_rfl) ?_
 obtain ⟨r21, hr21, h⟩ := bindS h
 refine evs_callS [] [(0, 700100)] [] (by kernel_rfl) (W.geom_minus_ok hr21) (by kernel_rfl) (by kernel_rfl) (.inl rfl) ?_
 obtain ⟨r22, hr22, h⟩ := bindS h
 refine evs_callP [] (by kernel_rfl) (W.geom_signOf_ok hr22) (by kernel_rfl) (.inl rfl) (by kernel_rfl) ?_
 refine z1 1 ⟨[(6, (vI r22))], []⟩ (by kernel_rfl) ?_
 refine sem_retS (by kernel_rfl) (fun τ hτ => ?_)
 obtain rfl := Option.some.inj h
 exact rk_ret hτ [(6, (vI r22))] (here (by kernel_rfl)) (by kernel_rfl)
theorem W.sheetmetallaw01_long_ok {l : (List Point)} {r : Bool} (h : sheetmetallaw01_long l = some r) : PC G.P 36 [(.sl (List.map c_Point l))] [] (vB r) [] := by
 refine pc_of G (fn := Try.f36) Try.func36 (by kernel_rfl) (by kernel_rfl) (by kernel_rfl) (by kernel_rfl) (by kernel_rfl) ?_
 refine sem_set ⟨[(0, (.sl (List.map c_Point l)))], []⟩ (by kernel_rfl) ?_
 refine z3 1 ⟨[(0, (.sl (List.map c_Point l)))], []⟩ (by kernel_rfl) ?_
 refine z7 (by kernel_rfl) ?_
 refine evs_run 1 (by kernel_rfl) ?_
 refine evs_op (st_len (c := c_Point) (l := l) (x := (.sl (List.map c_Point l))) (by kernel_rfl) (by kernel_rfl)) ?_
 refine z1 2 ⟨[(2, (vB (decide ((l.length : Int) > 60))))], []⟩ (by kernel_rfl) ?_
 refine sem_retS (by kernel_rfl) (fun τ hτ => ?_)
 obtain rfl := Option.some.inj h
 exact rk_ret hτ [(2, (vB (decide ((l.length : Int) > 60))))] (here (by kernel_rfl)) (by kernel_rfl)
theorem W.sheetmetalref01_CopyPoints_ok {l : (List Point)} {r : (List Point)} (h : sheetmetalref01_CopyPoints l = some r) : PC G.P 37 [(.sl (List.map c_Point l))] [] (.row (.top 0) 36) [(0, .row 36 [] (List.map c_Point r))] := by
 refine pc_of G (fn := Try.f37) Try.func37 (by kernel_rfl) (by kernel_rfl) (by kernel_rfl) (by kernel_rfl) (by kernel_rfl) ?_
 refine sem_set ⟨[(0, (.sl (List.map c_Point l)))], []⟩ (by kernel_rfl) ?_
 refine z3 1 ⟨[(0, (.sl (List.map c_Point l)))], []⟩ (by kernel_rfl) ?_
 refine z3 1 ⟨[(0, (.sl (List.map c_Point l))), (3, (.row (.top 3) 36))], [(3, .row 36 [] (List.map c_Point []))]⟩ (by kernel_rfl) ?_
 refine sem_seq (by kernel_rfl) ?_
 refine z3 1 ⟨[(0, (.sl (List.map c_Point l))), (3, (.row (.top 3) 36)), (4, (vI 0))], [(3, .row 36 [] (List.map c_Point []))]⟩ (by kernel_rfl) ?_
 refine sem_block (by kernel_rfl) ?_
 obtain ⟨x54, hx54, h⟩ := bindS h
 refine sem_loopS (fun (s37 : Int × (List Point)) => ⟨[(0, (.sl (List.map c_Point l))), (3, (.row (.top 500000) 36)), (4, (vI s37.1))], [(500000, .row 36 [] (List.map c_Point s37.2))]⟩) (fun (x54 : (List Point)) => (.exit 0, ⟨[(3, (.row (.top 500000) 36))], [(500000, .row 36 [] (List.map c_Point x54))]⟩)) (sheetmetalref01_CopyPoints_l1 l) (0, []) x54 (by kernel_rfl) (subR_prep [] [(3, 500000)] (by kernel_rfl) rfl rfl (by kernel_rfl)) hx54 ?_ ?_ ?_
 ·intro s37 r h
  refine sem_seq (by kernel_rfl) ?_
  refine z7 (by kernel_rfl) ?_
  refine evs_run 2 (by kernel_rfl) ?_
  refine evs_op (st_len (c := c_Point) (l := l) (x := (.sl (List.map c_Point l))) (by kernel_rfl) (by kernel_rfl)) ?_
  refine z1 1 ⟨[(0, (.sl (List.map c_Point l))), (3, (.row (.top 500000) 36)), (4, (vI s37.1)), (8, (vB (decide (s37.1 < (l.length : Int)))))], [(500000, .row 36 [] (List.map c_Point s37.2))]⟩ (by kernel_rfl) ?_
  refine sem_cond (decide (s37.1 < (l.length : Int))) (by kernel_rfl) (by kernel_rfl) (fun hb => ?_) (fun hb => ?_)
  ·replace h := iteT hb h
   refine z4 ⟨[(0, (.sl (List.map c_Point l))), (3, (.row (.top 500000) 36)), (4, (vI s37.1))], [(500000, .row 36 [] (List.map c_Point s37.2))]⟩ (by kernel_rfl) ?_
   refine sem_seq (by kernel_rfl) ?_
   refine sem_block (by kernel_rfl) ?_
   refine sem_region (by kernel_rfl) ?_
   refine evs_run 3 (by kernel_rfl) ?_
   obtain ⟨x52, hx52, h⟩ := bindS h
   refine evs_op (st_idx (c := c_Point) (l := l) (i := s37.1) (kd := .i64) (sz := 4) (by kernel_rfl) hx52 rfl) ?_
   refine evs_run 2 (by kernel_rfl) ?_
   obtain ⟨l53, hl53, h⟩ := bindS h
   refine evs_op (st_app (c := c_Point) (l := s37.2) (l2 := [x52]) (x := (.sl (List.map c_Point [x52]))) (g := 500000) (e := 36) (sz := 4) (d := 17) (by kernel_rfl) (by kernel_rfl) (by kernel_rfl) (by kernel_rfl) (fun _ => rfl) rfl hl53) ?_
   refine z6 1 (by kernel_rfl) (fun τ hτ => ?_)
   refine bl_normal ?_
   refine th_normalS hτ ⟨[(0, (.sl (List.map c_Point l))), (3, (.row (.top 500000) 36)), (4, (vI s37.1))], [(500000, .row 36 [] (List.map c_Point l53))]⟩ (here (by kernel_rfl)) ?_
   refine sem_region (by kernel_rfl) ?_
   refine z6 3 (by kernel_rfl) (fun τ hτ => ?_)
   obtain rfl := Option.some.inj h
   exact lk_nextS hτ (here (by kernel_rfl))
  ·replace h := iteF hb h
   refine sem_exitS 0 (by kernel_rfl) rfl (fun τ hτ => ?_)
   refine th_exit ?_
   obtain rfl := Option.some.inj h
   exact lk_outS hτ rfl (here (by kernel_rfl))
 ·intro x
  rfl
 ·intro τ hτ
  refine bl_hit (by kernel_rfl) ?_
  refine th_normalS hτ ⟨[(3, (.row (.top 500000) 36))], [(500000, .row 36 [] (List.map c_Point x54))]⟩ (here (by kernel_rfl)) ?_
  refine z8 2 ⟨[(2, (.row (.top 500000) 36))], [(500000, .row 36 [] (List.map c_Point x54))]⟩ (by kernel_rfl) (fun τ hτ => ?_)
  obtain rfl := Option.some.inj h
  exact rk_ret hτ [(2, (.row (.top 0) 36))] (subR_prep [] [(500000, 0)] (by kernel_rfl) rfl rfl (by kernel_rfl)) (by kernel_rfl)
theorem W.geom_points_ok {l : (List Point)} {r : Int} (h : geom_points l = some r) : PC G.P 77 [(.sl (List.map c_Point l))] [] (vI r) [] := by
 refine pc_of G (fn := Try.f77) Try.func77 (by kernel_rfl) (by kernel_rfl) (by kernel_rfl) (by kernel_rfl) (by kernel_rfl) ?_
 refine sem_set ⟨[(0, (.sl (List.map c_Point l)))], []⟩ (by kernel_rfl) ?_
 refine z3 1 ⟨[(0, (.sl (List.map c_Point l)))], []⟩ (by kernel_rfl) ?_
 refine sem_seq (by kernel_rfl) ?_
 refine sem_seq (by kernel_rfl) ?_
 obtain ⟨j2, hj2, h⟩ := bindS h
 refine sem_regionC ⟨[(0, (.sl (List.map c_Point l))), (10, (vB j2))], []⟩ (by kernel_rfl) ?_ (fun τ hτ => ?_)
 ·replace h := hj2
  refine evs_run 1 (by kernel_rfl) ?_
  refine evs_op (st_len (c := c_Point) (l := l) (x := (.sl (List.map c_Point l))) (by kernel_rfl) (by kernel_rfl)) ?_
  refine evs_run 2 (by kernel_rfl) ?_
  refine evs_split ((l.length : Int) == 0) (fun b0 => ⟨[(0, (.sl (List.map c_Point l))), (6, (vB b0))], []⟩) (by kernel_rfl) (fun hb => ?_) (fun hb => ?_)
  ·replace h := iteT hb h
   refine z6 4 (by kernel_rfl) (fun τ hτ => ?_)
   obtain rfl := Option.some.inj h
   exact leafC hτ (here (by kernel_rfl))
  ·replace h := iteF hb h
   refine evs_run 1 (by kernel_rfl) ?_
   refine evs_op (st_len (c := c_Point) (l := l) (x := (.sl (List.map c_Point l))) (by kernel_rfl) (by kernel_rfl)) ?_
   refine z6 2 (by kernel_rfl) (fun τ hτ => ?_)
   obtain rfl := Option.some.inj h
   exact leafC hτ (here (by kernel_rfl))
 refine th_normalS hτ ⟨[(0, (.sl (List.map c_Point l))), (10, (vB j2))], []⟩ (here (by kernel_rfl)) ?_
 refine sem_cond j2 (by kernel_rfl) (by kernel_rfl) (fun hb => ?_) (fun hb => ?_)
 ·replace h := iteT hb h
  refine z8 1 ⟨[(2, (vI 1))], []⟩ (by kernel_rfl) (fun τ hτ => ?_)
  refine th_ret ?_
  obtain rfl := Option.some.inj h
  exact rk_ret hτ [(2, (vI 1))] (here (by kernel_rfl)) (by kernel_rfl)
 ·replace h := iteF hb h
  refine z4 ⟨[(0, (.sl (List.map c_Point l)))], []⟩ (by kernel_rfl) ?_
  refine sem_seq (by kernel_rfl) ?_
  refine z7 (by kernel_rfl) ?_
  refine evs_run 1 (by kernel_rfl) ?_
  obtain ⟨r6, hr6, h⟩ := bindS h
  refine evs_callP [] (by kernel_rfl) (W.geom_small_ok hr6) (by kernel_rfl) (.inl rfl) (by kernel_rfl) ?_
  refine z1 1 ⟨[(13, (vB (!r6)))], []⟩ (by kernel_rfl) ?_
  refine sem_cond (!r6) (by kernel_rfl) (by kernel_rfl) (fun hb => ?_) (fun hb => ?_)
  ·replace h := iteT hb h
   refine z8 1 ⟨[(2, (vI 4))], []⟩ (by kernel_rfl) (fun τ hτ => ?_)
   refine th_ret ?_
   obtain rfl := Option.some.inj h
   exact rk_ret hτ [(2, (vI 4))] (here (by kernel_rfl)) (by kernel_rfl)
  ·replace h := iteF hb h
   refine z4 ⟨[], []⟩ (by kernel_rfl) ?_
   refine z8 1 ⟨[(2, (vI 0))], []⟩ (by kernel_rfl) (fun τ hτ => ?_)
   obtain rfl := Option.some.inj h
   exact rk_ret hτ [(2, (vI 0))] (here (by kernel_rfl)) (by kernel_rfl)
theorem W.slices_Clone_Lapi_Point_api_Point_ok {s r : (List Point)} (h : slices_Clone_Lapi_Point_api_Point s = some r) : PC G.P 116 [.sl (List.map c_Point s)] [] (.row (.top 0) 36) [(0, .row 36 [] (List.map c_Point r))] := by
 replace h : app [] s = some r := h
 refine pc_of G (fn := Try.f116) Try.func116 (by kernel_rfl) (by kernel_rfl) (by kernel_rfl) (by kernel_rfl) (by kernel_rfl) ?_
 refine z3 1 ⟨[(0, .sl (List.map c_Point s))], []⟩ (by kernel_rfl) ?_
 refine sem_seq (by kernel_rfl) ?_
 refine z7 (by kernel_rfl) ?_
 refine evs_run 1 (by kernel_rfl) ?_
 refine evs_isnil (es := List.map c_Point s) (by kernel_rfl) (fun hn => ?_) ?_
 ·obtain rfl : s = [] := List.map_eq_nil_iff.1 hn
  obtain rfl : [] = r := Option.some.inj ((app_eq (by simp [LIM])).symm.trans h)
  refine evs_endS (by kernel_rfl) (fun τ hτ => ?_)
  refine th_normalS hτ ⟨[(0, .sl (List.map c_Point [])), (4, vB true)], []⟩ (here (by kernel_rfl)) ?_
  refine sem_condT (by kernel_rfl) (by kernel_rfl) ?_
  refine z8 1 ⟨[(2, .row (.top 2) 36)], [(2, .row 36 [] (List.map c_Point []))]⟩ (by kernel_rfl) (fun τ hτ => ?_)
  refine th_ret ?_
  exact rk_ret hτ [(2, .row (.top 0) 36)] (subR_of [(2, 0)] rfl rfl (by kernel_rfl)) (by kernel_rfl)
 ·refine evs_endS (by kernel_rfl) (fun τ hτ => ?_)
  refine th_normalS hτ ⟨[(0, .sl (List.map c_Point s)), (4, vB false)], []⟩ (here (by kernel_rfl)) ?_
  refine sem_condF (by kernel_rfl) (by kernel_rfl) ?_
  refine z4 ⟨[(0, .sl (List.map c_Point s))], []⟩ (by kernel_rfl) ?_
  refine z7 (by kernel_rfl) ?_
  refine evs_at (at_build (es := List.map c_Point []) (e := 36) (d := 5) (by kernel_rfl)) ?_
  refine evs_run 1 (by kernel_rfl) ?_
  refine evs_op (st_app (c := c_Point) (l := []) (l2 := s) (x := .sl (List.map c_Point s)) (g := 5) (e := 36) (sz := 4) (d := 7) (by kernel_rfl) (by kernel_rfl) (by kernel_rfl) (by kernel_rfl) (fun _ => rfl) rfl h) ?_
  refine z1 1 ⟨[(2, .row (.top 5) 36)], [(5, .row 36 [] (List.map c_Point r))]⟩ (by kernel_rfl) ?_
  refine sem_retS (by kernel_rfl) (fun τ hτ => ?_)
  exact rk_ret hτ [(2, .row (.top 0) 36)] (subR_of [(5, 0)] rfl rfl (by kernel_rfl)) (by kernel_rfl)
theorem W.bits_Len64_ok {x0 : Int} {r : Int} (h : bits_Len64 x0 = some r) : PC G.P 135 [(vK .u64 x0)] [] (vI r) [] := by
 refine pc_of G (fn := Try.f135) Try.func135 (by kernel_rfl) (by kernel_rfl) (by kernel_rfl) (by kernel_rfl) (by kernel_rfl) ?_
 refine sem_set ⟨[(0, (vK .u64 x0))], []⟩ (by kernel_rfl) ?_
 refine z3 1 ⟨[(0, (vK .u64 x0)), (2, (vI 0))], []⟩ (by kernel_rfl) ?_
 refine sem_seqJ (fun (j1 : Int × Int) => ⟨[(0, (vK .u64 j1.1)), (2, (vI j1.2))], []⟩) (bits_Len64_k3) r (by kernel_rfl) (fun j1 h => ?_) ?_
 ·refine sem_seqJ (fun (j2 : Int × Int) => ⟨[(0, (vK .u64 j2.1)), (2, (vI j2.2))], []⟩) (bits_Len64_k2) r (by kernel_rfl) (fun j2 h => ?_) ?_
  ·refine sem_seqJ (fun (j3 : Int × Int) => ⟨[(0, (vK .u64 j3.1)), (2, (vI j3.2))], []⟩) (bits_Len64_k1) r (by kernel_rfl) (fun j3 h => ?_) ?_
   ·refine z7 (by kernel_rfl) ?_
    refine evs_run 3 (by kernel_rfl) ?_
    obtain ⟨x5, hx5, h⟩ := bindS h
    refine evs_at (at_sidx (s := (ByteArray.mk #[0, 1, 2, 2, 3, 3, 3, 3, 4, 4, 4, 4, 4, 4, 4, 4, 5, 5, 5, 5, 5, 5, 5, 5, 5, 5, 5, 5, 5, 5, 5, 5, 6, 6, 6, 6, 6, 6, 6, 6, 6, 6, 6, 6, 6, 6, 6, 6, 6, 6, 6, 6, 6, 6, 6, 6, 6, 6, 6, 6, 6, 6, 6, 6, 7, 7, 7, 7, 7, 7, 7, 7, 7, 7, 7, 7, 7, 7, 7, 7, 7, 7, 7, 7, 7, 7, 7, 7, 7, 7, 7, 7, 7, 7, 7, 7, 7, 7, 7, 7, 7, 7, 7, 7, 7, 7, 7, 7, 7, 7, 7, 7, 7, 7, 7, 7, 7, 7, 7, 7, 7, 7, 7, 7, 7, 7, 7, 7, 8, 8, 8, 8, 8, 8, 8, 8, 8, 8, 8, 8, 8, 8, 8, 8, 8, 8, 8, 8, 8, 8, 8, 8, 8, 8, 8, 8, 8, 8, 8, 8, 8, 8, 8, 8, 8, 8, 8, 8, 8, 8, 8, 8, 8, 8, 8, 8, 8, 8, 8, 8, 8, 8, 8, 8, 8, 8, 8, 8, 8, 8, 8, 8, 8, 8, 8, 8, 8, 8, 8, 8, 8, 8, 8, 8, 8, 8, 8, 8, 8, 8, 8, 8, 8, 8, 8, 8, 8, 8, 8, 8, 8, 8, 8, 8, 8, 8, 8, 8, 8, 8, 8, 8, 8, 8, 8, 8, 8, 8, 8, 8, 8, 8, 8, 8, 8, 8, 8, 8, 8, 8, 8, 8, 8, 8, 8, 8])) (i := (IntKind.wrap .u8 j3.1)) (kd := .u8) (by kernel_rfl) hx5) ?_
    refine z1 3 ⟨[(2, (vI (iadd j3.2 (IntKind.wrap .i64 x5))))], []⟩ (by kernel_rfl) ?_
    refine sem_retS (by kernel_rfl) (fun τ hτ => ?_)
    obtain rfl := Option.some.inj h
    exact rk_ret hτ [(2, (vI (iadd j3.2 (IntKind.wrap .i64 x5))))] (here (by kernel_rfl)) (by kernel_rfl)
   refine z3 2 ⟨[(0, (vK .u64 j2.1)), (2, (vI j2.2)), (14, (vB (decide (j2.1 ≥ 256))))], []⟩ (by kernel_rfl) ?_
   refine sem_cond (decide (j2.1 ≥ 256)) (by kernel_rfl) (by kernel_rfl) (fun hb => ?_) (fun hb => ?_)
   ·replace h := iteT hb h
    refine z3 3 ⟨[(0, (vK .u64 (Int.fdiv j2.1 (2 ^ (min (Int.toNat 8) 64))))), (2, (vI j2.2))], []⟩ (by kernel_rfl) ?_
    refine sem_region (by kernel_rfl) ?_
    refine z6 3 (by kernel_rfl) (fun τ hτ => ?_)
    exact jk_normal ((Int.fdiv j2.1 (2 ^ (min (Int.toNat 8) 64))), (iadd j2.2 8)) h hτ (here (by kernel_rfl))
   ·replace h := iteF hb h
    refine sem_skipS (by kernel_rfl) (fun τ hτ => ?_)
    exact jk_normal (j2.1, j2.2) h hτ (here (by kernel_rfl))
  refine z3 2 ⟨[(0, (vK .u64 j1.1)), (2, (vI j1.2)), (8, (vB (decide (j1.1 ≥ 65536))))], []⟩ (by kernel_rfl) ?_
  refine sem_cond (decide (j1.1 ≥ 65536)) (by kernel_rfl) (by kernel_rfl) (fun hb => ?_) (fun hb => ?_)
  ·replace h := iteT hb h
   refine z3 3 ⟨[(0, (vK .u64 (Int.fdiv j1.1 (2 ^ (min (Int.toNat 16) 64))))), (2, (vI j1.2))], []⟩ (by kernel_rfl) ?_
   refine sem_region (by kernel_rfl) ?_
   refine z6 3 (by kernel_rfl) (fun τ hτ => ?_)
   exact jk_normal ((Int.fdiv j1.1 (2 ^ (min (Int.toNat 16) 64))), (iadd j1.2 16)) h hτ (here (by kernel_rfl))
  ·replace h := iteF hb h
   refine sem_skipS (by kernel_rfl) (fun τ hτ => ?_)
   exact jk_normal (j1.1, j1.2) h hτ (here (by kernel_rfl))
 refine z3 2 ⟨[(0, (vK .u64 x0)), (2, (vI 0)), (4, (vB (decide (x0 ≥ 4294967296))))], []⟩ (by kernel_rfl) ?_
 refine sem_cond (decide (x0 ≥ 4294967296)) (by kernel_rfl) (by kernel_rfl) (fun hb => ?_) (fun hb => ?_)
 ·replace h := iteT hb h
  refine z3 3 ⟨[(0, (vK .u64 (Int.fdiv x0 (2 ^ (min (Int.toNat 32) 64)))))], []⟩ (by kernel_rfl) ?_
  refine sem_region (by kernel_rfl) ?_
  refine z6 1 (by kernel_rfl) (fun τ hτ => ?_)
  exact jk_normal ((Int.fdiv x0 (2 ^ (min (Int.toNat 32) 64))), 32) h hτ (here (by kernel_rfl))
 ·replace h := iteF hb h
  refine sem_skipS (by kernel_rfl) (fun τ hτ => ?_)
  exact jk_normal (x0, 0) h hτ (here (by kernel_rfl))
theorem W.bits_Len_ok {x0 : Int} {r : Int} (h : bits_Len x0 = some r) : PC G.P 124 [(vK .u64 x0)] [] (vI r) [] := by
 refine pc_of G (fn := Try.f124) Try.func124 (by kernel_rfl) (by kernel_rfl) (by kernel_rfl) (by kernel_rfl) (by kernel_rfl) ?_
 refine sem_set ⟨[(0, (vK .u64 x0))], []⟩ (by kernel_rfl) ?_
 refine z3 1 ⟨[(0, (vK .u64 x0))], []⟩ (by kernel_rfl) ?_
 refine sem_seq (by kernel_rfl) ?_
 refine sem_condF (by kernel_rfl) (by kernel_rfl) ?_
 refine z4 ⟨[(0, (vK .u64 x0))], []⟩ (by kernel_rfl) ?_
 refine z7 (by kernel_rfl) ?_
 refine evs_run 1 (by kernel_rfl) ?_
 obtain ⟨r2, hr2, h⟩ := bindS h
 refine evs_callP [] (by kernel_rfl) (W.bits_Len64_ok hr2) (by kernel_rfl) (.inl rfl) (by kernel_rfl) ?_
 refine z1 1 ⟨[(2, (vI r2))], []⟩ (by kernel_rfl) ?_
 refine sem_retS (by kernel_rfl) (fun τ hτ => ?_)
 obtain rfl := Option.some.inj h
 exact rk_ret hτ [(2, (vI r2))] (here (by kernel_rfl)) (by kernel_rfl)
theorem W.geom_comparePoints_ok {a : Point} {b : Point} {r : Int} (h : geom_comparePoints a b = some r) : PC G.P 106 [(.agg [(vI a.X.A), (vI a.X.B), (vI a.Y.A), (vI a.Y.B)]), (.agg [(vI b.X.A), (vI b.X.B), (vI b.Y.A), (vI b.Y.B)])] [] (vI r) [] := by
 refine pc_of G (fn := Try.f106) Try.func106 (by kernel_rfl) (by kernel_rfl) (by kernel_rfl) (by kernel_rfl) (by kernel_rfl) ?_
 refine sem_set ⟨[(0, (.agg [(vI a.X.A), (vI a.X.B), (vI a.Y.A), (vI a.Y.B)])), (1, (.agg [(vI b.X.A), (vI b.X.B), (vI b.Y.A), (vI b.Y.B)]))], []⟩ (by kernel_rfl) ?_
 refine z3 3 ⟨[(2, (.ptr 2 0)), (3, (.ptr 3 0))], [(2, .box [(vI a.X.A), (vI a.X.B), (vI a.Y.A), (vI a.Y.B)]), (3, .box [(vI b.X.A), (vI b.X.B), (vI b.Y.A), (vI b.Y.B)])]⟩ (by kernel_rfl) ?_
 refine sem_seq (by kernel_rfl) ?_
 refine z7 (by kernel_rfl) ?_
 refine evs_run 4 (by kernel_rfl) ?_
 obtain ⟨r7, hr7, h⟩ := bindS h
 refine evs_callS [] [(0, 700200)] [] (by kernel_rfl) (W.geom_minus_ok hr7) (by kernel_rfl) (by kernel_rfl) (.inl rfl) ?_
 obtain ⟨r8, hr8, h⟩ := bindS h
 refine evs_callP [] (by kernel_rfl) (W.geom_signOf_ok hr8) (by kernel_rfl) (.inl rfl) (by kernel_rfl) ?_
 refine z1 1 ⟨[(2, (.ptr 2 0)), (3, (.ptr 3 0)), (5, (vI r8))], [(2, .box [(vI a.X.A), (vI a.X.B), (vI a.Y.A), (vI a.Y.B)]), (3, .box [(vI b.X.A), (vI b.X.B), (vI b.Y.A), (vI b.Y.B)])]⟩ (by kernel_rfl) ?_
 refine z3 2 ⟨[(2, (.ptr 2 0)), (3, (.ptr 3 0)), (5, (vI r8)), (13, (vB (r8 != 0)))], [(2, .box [(vI a.X.A), (vI a.X.B), (vI a.Y.A), (vI a.Y.B)]), (3, .box [(vI b.X.A), (vI b.X.B), (vI b.Y.A), (vI b.Y.B)])]⟩ (by kernel_rfl) ?_
 refine sem_cond (r8 != 0) (by kernel_rfl) (by kernel_rfl) (fun hb => ?_) (fun hb => ?_)
 ·replace h := iteT hb h
  refine z8 2 ⟨[(4, (vI r8))], []⟩ (by kernel_rfl) (fun τ hτ => ?_)
  refine th_ret ?_
  obtain rfl := Option.some.inj h
  exact rk_ret hτ [(4, (vI r8))] (here (by kernel_rfl)) (by kernel_rfl)
 ·replace h := iteF hb h
  refine z4 ⟨[(2, (.ptr 2 0)), (3, (.ptr 3 0))], [(2, .box [(vI a.X.A), (vI a.X.B), (vI a.Y.A), (vI a.Y.B)]), (3, .box [(vI b.X.A), (vI b.X.B), (vI b.Y.A), (vI b.Y.B)])]⟩ (by kernel_rfl) ?_
  refine z7 (by kernel_rfl) ?_
  refine evs_run 4 (by kernel_rfl) ?_
  obtain ⟨r11, hr11, h⟩ := bindS h
  refine evs_callS [] [(0, 700200)] [] (by kernel_rfl) (W.geom_minus_ok hr11) (by kernel_rfl) (by kernel_rfl) (.inl rfl) ?_
  obtain ⟨r12, hr12, h⟩ := bindS h
  refine evs_callP [] (by kernel_rfl) (W.geom_signOf_ok hr12) (by kernel_rfl) (.inl rfl) (by kernel_rfl) ?_
  refine z1 1 ⟨[(4, (vI r12))], []⟩ (by kernel_rfl) ?_
  refine sem_retS (by kernel_rfl) (fun τ hτ => ?_)
  obtain rfl := Option.some.inj h
  exact rk_ret hτ [(4, (vI r12))] (here (by kernel_rfl)) (by kernel_rfl)
theorem W.slices_insertionSortCmpFunc_api_Point__geom_comparePoints_ok {a : Int} {b : Int} {h0 : (List Point)} {r : (List Point)} (h : slices_insertionSortCmpFunc_api_Point__geom_comparePoints a b h0 = some r) : PC G.P 126 [(.row (.top 1000000) 36), (vI a), (vI b), (.fn 106 [])] [(1000000, .row 36 [] (List.map c_Point h0))] (.tup []) [(1000000, .row 36 [] (List.map c_Point r))] := by
 refine pc_of G (fn := Try.f126) Try.func126 (by kernel_rfl) (by kernel_rfl) (by kernel_rfl) (by kernel_rfl) (by kernel_rfl) ?_
 refine sem_set ⟨[(0, (.row (.top 1000000) 36)), (1, (vI a)), (2, (vI b)), (3, (.fn 106 []))], [(1000000, .row 36 [] (List.map c_Point h0))]⟩ (by kernel_rfl) ?_
 refine z3 3 ⟨[(0, (.row (.top 1000000) 36)), (1, (vI a)), (2, (vI b)), (3, (.fn 106 [])), (8, (vI (iadd a 1)))], [(1000000, .row 36 [] (List.map c_Point h0))]⟩ (by kernel_rfl) ?_
 refine sem_block (by kernel_rfl) ?_
 obtain ⟨x813, hx813, h⟩ := bindS h
 refine sem_loopS (fun (s272 : Int × (List Point)) => ⟨[(0, (.row (.top 1000000) 36)), (1, (vI a)), (2, (vI b)), (3, (.fn 106 [])), (8, (vI s272.1))], [(1000000, .row 36 [] (List.map c_Point s272.2))]⟩) (fun (x813 : (List Point)) => (.exit 0, ⟨[], [(1000000, .row 36 [] (List.map c_Point x813))]⟩)) (slices_insertionSortCmpFunc_api_Point__geom_comparePoints_l2 a b) ((iadd a 1), h0) x813 (by kernel_rfl) (here (by kernel_rfl)) hx813 ?_ ?_ ?_
 ·intro s272 r h
  refine sem_seq (by kernel_rfl) ?_
  refine z3 3 ⟨[(0, (.row (.top 1000000) 36)), (1, (vI a)), (2, (vI b)), (3, (.fn 106 [])), (8, (vI s272.1)), (14, (vB (decide (s272.1 < b))))], [(1000000, .row 36 [] (List.map c_Point s272.2))]⟩ (by kernel_rfl) ?_
  refine sem_cond (decide (s272.1 < b)) (by kernel_rfl) (by kernel_rfl) (fun hb => ?_) (fun hb => ?_)
  ·replace h := iteT hb h
   refine z4 ⟨[(0, (.row (.top 1000000) 36)), (1, (vI a)), (2, (vI b)), (3, (.fn 106 [])), (8, (vI s272.1))], [(1000000, .row 36 [] (List.map c_Point s272.2))]⟩ (by kernel_rfl) ?_
   refine sem_seq (by kernel_rfl) ?_
   refine sem_block (by kernel_rfl) ?_
   refine z3 2 ⟨[(0, (.row (.top 1000000) 36)), (1, (vI a)), (2, (vI b)), (3, (.fn 106 [])), (8, (vI s272.1)), (9, (vI s272.1))], [(1000000, .row 36 [] (List.map c_Point s272.2))]⟩ (by kernel_rfl) ?_
   refine sem_block (by kernel_rfl) ?_
   obtain ⟨x812, hx812, h⟩ := bindS h
   refine sem_loopS (fun (s723 : Int × (List Point)) => ⟨[(0, (.row (.top 1000000) 36)), (1, (vI a)), (2, (vI b)), (3, (.fn 106 [])), (8, (vI s272.1)), (9, (vI s723.1))], [(1000000, .row 36 [] (List.map c_Point s723.2))]⟩) (fun (x812 : (List Point)) => (.exit 2, ⟨[(0, (.row (.top 1000000) 36)), (1, (vI a)), (2, (vI b)), (3, (.fn 106 [])), (8, (vI s272.1))], [(1000000, .row 36 [] (List.map c_Point x812))]⟩)) (slices_insertionSortCmpFunc_api_Point__geom_comparePoints_l1 a) (s272.1, s272.2) x812 (by kernel_rfl) (here (by kernel_rfl)) hx812 ?_ ?_ ?_
   ·intro s723 r h
    refine sem_seq (by kernel_rfl) ?_
    refine sem_seq (by kernel_rfl) ?_
    obtain ⟨j784, hj784, h⟩ := bindS h
    refine sem_drawP ⟨[(0, (.row (.top 1000000) 36)), (1, (vI a)), (2, (vI b)), (3, (.fn 106 [])), (8, (vI s272.1)), (9, (vI s723.1)), (34, (vB j784))], [(1000000, .row 36 [] (List.map c_Point s723.2))]⟩ [] [] [] [] [] 14 (by kernel_rfl) (by kernel_rfl) (by kernel_rfl) ?_ (fun τ hτ => ?_)
    ·replace h := hj784
     refine evd_run 4 (by kernel_rfl) ?_
     refine evd_split (decide (s723.1 > a)) (fun b0 => ⟨[(21, (vB b0)), (20, (vB b0)), (19, (vI a)), (18, (vI s723.1)), (0, (.row (.top 1000000) 36)), (1, (vI a)), (2, (vI b)), (3, (.fn 106 [])), (8, (vI s272.1)), (9, (vI s723.1))], [(1000000, .row 36 [] (List.map c_Point s723.2))]⟩) (by kernel_rfl) (fun hb => ?_) (fun hb => ?_)
     ·replace h := iteT hb h
      refine evd_run 3 (by kernel_rfl) ?_
      obtain ⟨x785, hx785, h⟩ := bindS h
      refine evd_val (by kernel_rfl) (st_idxO (c := c_Point) (l := s723.2) (i := s723.1) (kd := .i64) (kk := (.top 1000000)) (e := 36) (sz := 4) (by kernel_rfl) (by kernel_rfl) hx785 rfl) (by kernel_rfl) (by kernel_rfl) ?_
      refine evd_val (by kernel_rfl) (st_ldO (c := c_Point) (l := s723.2) (i := (Int.toNat s723.1)) (v := (.agg [(vI x785.X.A), (vI x785.X.B), (vI x785.Y.A), (vI x785.Y.B)])) (agg := true) (sz := 4) (kk := (.top 1000000)) (e := 36) (off := 0) (J := []) (by kernel_rfl) (by kernel_rfl) (by kernel_rfl) ((idxS hx785).2) (by kernel_rfl)) (by kernel_rfl) (by kernel_rfl) ?_
      refine evd_run 3 (by kernel_rfl) ?_
      obtain ⟨x786, hx786, h⟩ := bindS h
      refine evd_val (by kernel_rfl) (st_idxO (c := c_Point) (l := s723.2) (i := (isub s723.1 1)) (kd := .i64) (kk := (.top 1000000)) (e := 36) (sz := 4) (by kernel_rfl) (by kernel_rfl) hx786 rfl) (by kernel_rfl) (by kernel_rfl) ?_
      refine evd_val (by kernel_rfl) (st_ldO (c := c_Point) (l := s723.2) (i := (Int.toNat (isub s723.1 1))) (v := (.agg [(vI x786.X.A), (vI x786.X.B), (vI x786.Y.A), (vI x786.Y.B)])) (agg := true) (sz := 4) (kk := (.top 1000000)) (e := 36) (off := 0) (J := []) (by kernel_rfl) (by kernel_rfl) (by kernel_rfl) ((idxS hx786).2) (by kernel_rfl)) (by kernel_rfl) (by kernel_rfl) ?_
      refine evd_end (by kernel_rfl) ?_
      obtain ⟨r787, hr787, h⟩ := bindS h
      refine evo_callP [] (by kernel_rfl) (W.geom_comparePoints_ok hr787) (by kernel_rfl) (.inl rfl) (by kernel_rfl) ?_
      refine evo_run 2 (by kernel_rfl) ?_
      refine evo_endS (by kernel_rfl) (fun τ hτ => ?_)
      obtain rfl := Option.some.inj h
      exact leafC hτ (here (by kernel_rfl))
     ·replace h := iteF hb h
      refine evd_run 10 (by kernel_rfl) ?_
      refine evd_end (by kernel_rfl) ?_
      refine evo_run 3 (by kernel_rfl) ?_
      refine evo_endS (by kernel_rfl) (fun τ hτ => ?_)
      obtain rfl := Option.some.inj h
      exact leafC hτ (here (by kernel_rfl))
    refine th_normalS hτ ⟨[(0, (.row (.top 1000000) 36)), (1, (vI a)), (2, (vI b)), (3, (.fn 106 [])), (8, (vI s272.1)), (9, (vI s723.1)), (34, (vB j784))], [(1000000, .row 36 [] (List.map c_Point s723.2))]⟩ (here (by kernel_rfl)) ?_
    refine sem_cond j784 (by kernel_rfl) (by kernel_rfl) (fun hb => ?_) (fun hb => ?_)
    ·replace h := iteT hb h
     refine z4 ⟨[(0, (.row (.top 1000000) 36)), (1, (vI a)), (2, (vI b)), (3, (.fn 106 [])), (8, (vI s272.1)), (9, (vI s723.1))], [(1000000, .row 36 [] (List.map c_Point s723.2))]⟩ (by kernel_rfl) ?_
     refine sem_seq (by kernel_rfl) ?_
     refine sem_block (by kernel_rfl) ?_
     refine sem_drawN [(15, [1000000])] [] [] [(2, [1000000]), (3, [1000000]), (4, [1000000])] [] 16 (by kernel_rfl) (by kernel_rfl) (by kernel_rfl) ?_
     refine evd_run 8 (by kernel_rfl) ?_
     obtain ⟨x808, hx808, h⟩ := bindS h
     refine evd_val (by kernel_rfl) (st_idxO (c := c_Point) (l := s723.2) (i := (isub s723.1 1)) (kd := .i64) (kk := (.top 1000000)) (e := 36) (sz := 4) (by kernel_rfl) (by kernel_rfl) hx808 rfl) (by kernel_rfl) (by kernel_rfl) ?_
     refine evd_val (by kernel_rfl) (st_ldO (c := c_Point) (l := s723.2) (i := (Int.toNat (isub s723.1 1))) (v := (.agg [(vI x808.X.A), (vI x808.X.B), (vI x808.Y.A), (vI x808.Y.B)])) (agg := true) (sz := 4) (kk := (.top 1000000)) (e := 36) (off := 0) (J := []) (by kernel_rfl) (by kernel_rfl) (by kernel_rfl) ((idxS hx808).2) (by kernel_rfl)) (by kernel_rfl) (by kernel_rfl) ?_
     refine evd_run 2 (by kernel_rfl) ?_
     obtain ⟨x809, hx809, h⟩ := bindS h
     refine evd_val (by kernel_rfl) (st_idxO (c := c_Point) (l := s723.2) (i := s723.1) (kd := .i64) (kk := (.top 1000000)) (e := 36) (sz := 4) (by kernel_rfl) (by kernel_rfl) hx809 rfl) (by kernel_rfl) (by kernel_rfl) ?_
     refine evd_val (by kernel_rfl) (st_ldO (c := c_Point) (l := s723.2) (i := (Int.toNat s723.1)) (v := (.agg [(vI x809.X.A), (vI x809.X.B), (vI x809.Y.A), (vI x809.Y.B)])) (agg := true) (sz := 4) (kk := (.top 1000000)) (e := 36) (off := 0) (J := []) (by kernel_rfl) (by kernel_rfl) (by kernel_rfl) ((idxS hx809).2) (by kernel_rfl)) (by kernel_rfl) (by kernel_rfl) ?_
     obtain ⟨x810, hx810, h⟩ := bindS h
     refine evd_val (by kernel_rfl) (st_idxO (c := c_Point) (l := s723.2) (i := s723.1) (kd := .i64) (kk := (.top 1000000)) (e := 36) (sz := 4) (by kernel_rfl) (by kernel_rfl) hx810 rfl) (by kernel_rfl) (by kernel_rfl) ?_
     refine evd_set (by kernel_rfl) (st_stO (c := c_Point) (l := s723.2) (i := (Int.toNat s723.1)) (x := x810) (x' := x808) (v := (.agg [(vI x808.X.A), (vI x808.X.B), (vI x808.Y.A), (vI x808.Y.B)])) (agg := true) (sz := 4) (kk := (.top 1000000)) (e := 36) (off := 0) (J := []) (o := .row 36 [] (List.map c_Point (List.set s723.2 (Int.toNat s723.1) x808))) (by kernel_rfl) (by kernel_rfl) (by kernel_rfl) ((idxS hx810).2) (by kernel_rfl) (by kernel_rfl) (by kernel_rfl)) (by kernel_rfl) (by kernel_rfl) (by kernel_rfl) ?_
     refine evd_end (by kernel_rfl) ?_
     obtain ⟨x811, hx811, h⟩ := bindS h
     refine evo_op (st_idxO (c := c_Point) (l := (List.set s723.2 (Int.toNat s723.1) x808)) (i := (isub s723.1 1)) (kd := .i64) (kk := (.top 1000000)) (e := 36) (sz := 4) (by kernel_rfl) (by kernel_rfl) hx811 rfl) ?_
     refine evo_op (st_stO (c := c_Point) (l := (List.set s723.2 (Int.toNat s723.1) x808)) (i := (Int.toNat (isub s723.1 1))) (x := x811) (x' := x809) (v := (.agg [(vI x809.X.A), (vI x809.X.B), (vI x809.Y.A), (vI x809.Y.B)])) (agg := true) (sz := 4) (kk := (.top 1000000)) (e := 36) (off := 0) (J := []) (o := .row 36 [] (List.map c_Point (List.set (List.set s723.2 (Int.toNat s723.1) x808) (Int.toNat (isub s723.1 1)) x809))) (by kernel_rfl) (by kernel_rfl) (by kernel_rfl) ((idxS hx811).2) (by kernel_rfl) (by kernel_rfl) (by kernel_rfl)) ?_
     refine evo_endS (by kernel_rfl) (fun τ hτ => ?_)
     refine bl_normal ?_
     refine th_normalS hτ ⟨[(0, (.row (.top 1000000) 36)), (1, (vI a)), (2, (vI b)), (3, (.fn 106 [])), (8, (vI s272.1)), (9, (vI s723.1))], [(1000000, .row 36 [] (List.map c_Point (List.set (List.set s723.2 (Int.toNat s723.1) x808) (Int.toNat (isub s723.1 1)) x809)))]⟩ (here (by kernel_rfl)) ?_
     refine sem_region (by kernel_rfl) ?_
     refine z6 3 (by kernel_rfl) (fun τ hτ => ?_)
     obtain rfl := Option.some.inj h
     exact lk_nextS hτ (here (by kernel_rfl))
    ·replace h := iteF hb h
     refine sem_exitS 2 (by kernel_rfl) rfl (fun τ hτ => ?_)
     refine th_exit ?_
     obtain rfl := Option.some.inj h
     exact lk_outS hτ rfl (here (by kernel_rfl))
   ·intro x
    rfl
   ·intro τ hτ
    refine bl_hit (by kernel_rfl) ?_
    refine bl_normal ?_
    refine th_normalS hτ ⟨[(0, (.row (.top 1000000) 36)), (1, (vI a)), (2, (vI b)), (3, (.fn 106 [])), (8, (vI s272.1))], [(1000000, .row 36 [] (List.map c_Point x812))]⟩ (here (by kernel_rfl)) ?_
    refine sem_region (by kernel_rfl) ?_
    refine z6 3 (by kernel_rfl) (fun τ hτ => ?_)
    obtain rfl := Option.some.inj h
    exact lk_nextS hτ (here (by kernel_rfl))
  ·replace h := iteF hb h
   refine sem_exitS 0 (by kernel_rfl) rfl (fun τ hτ => ?_)
   refine th_exit ?_
   obtain rfl := Option.some.inj h
   exact lk_outS hτ rfl (here (by kernel_rfl))
 ·intro x
  rfl
 ·intro τ hτ
  refine bl_hit (by kernel_rfl) ?_
  obtain rfl := Option.some.inj h
  exact rk_normal hτ [] (here (by kernel_rfl)) (by kernel_rfl)
theorem W.slices_siftDownCmpFunc_api_Point__geom_comparePoints_ok {lo : Int} {hi : Int} {first : Int} {h0 : (List Point)} {r : (List Point)} (h : slices_siftDownCmpFunc_api_Point__geom_comparePoints lo hi first h0 = some r) : PC G.P 144 [(.row (.top 1000000) 36), (vI lo), (vI hi), (vI first), (.fn 106 [])] [(1000000, .row 36 [] (List.map c_Point h0))] (.tup []) [(1000000, .row 36 [] (List.map c_Point r))] := by
 refine pc_of G (fn := Try.f144) Try.func144 (by kernel_rfl) (by kernel_rfl) (by kernel_rfl) (by kernel_rfl) (by kernel_rfl) ?_
 refine sem_set ⟨[(0, (.row (.top 1000000) 36)), (1, (vI lo)), (2, (vI hi)), (3, (vI first)), (4, (.fn 106 []))], [(1000000, .row 36 [] (List.map c_Point h0))]⟩ (by kernel_rfl) ?_
 refine z3 2 ⟨[(0, (.row (.top 1000000) 36)), (2, (vI hi)), (3, (vI first)), (4, (.fn 106 [])), (10, (vI lo))], [(1000000, .row 36 [] (List.map c_Point h0))]⟩ (by kernel_rfl) ?_
 refine sem_block (by kernel_rfl) ?_
 obtain ⟨x156, hx156, h⟩ := bindS h
 refine sem_loopS (fun (s53 : Int × (List Point)) => ⟨[(0, (.row (.top 1000000) 36)), (2, (vI hi)), (3, (vI first)), (4, (.fn 106 [])), (10, (vI s53.1))], [(1000000, .row 36 [] (List.map c_Point s53.2))]⟩) (fun (x156 : (List Point) ⊕ (List Point)) => match x156 with | .inl j157 => (.exit 0, ⟨[], [(1000000, .row 36 [] (List.map c_Point j157))]⟩) | .inr j158 => (.ret, ⟨[], [(1000000, .row 36 [] (List.map c_Point j158))]⟩)) (slices_siftDownCmpFunc_api_Point__geom_comparePoints_l2 hi first) (lo, h0) x156 (by kernel_rfl) (here (by kernel_rfl)) hx156 ?_ ?_ ?_
 ·intro s53 r h
  refine sem_block (by kernel_rfl) ?_
  refine z3 4 ⟨[(0, (.row (.top 1000000) 36)), (2, (vI hi)), (3, (vI first)), (4, (.fn 106 [])), (10, (vI s53.1)), (11, (vI (iadd (imul 2 s53.1) 1)))], [(1000000, .row 36 [] (List.map c_Point s53.2))]⟩ (by kernel_rfl) ?_
  refine sem_seq (by kernel_rfl) ?_
  refine z3 3 ⟨[(0, (.row (.top 1000000) 36)), (2, (vI hi)), (3, (vI first)), (4, (.fn 106 [])), (10, (vI s53.1)), (11, (vI (iadd (imul 2 s53.1) 1))), (18, (vB (decide ((iadd (imul 2 s53.1) 1) ≥ hi))))], [(1000000, .row 36 [] (List.map c_Point s53.2))]⟩ (by kernel_rfl) ?_
  refine sem_cond (decide ((iadd (imul 2 s53.1) 1) ≥ hi)) (by kernel_rfl) (by kernel_rfl) (fun hb => ?_) (fun hb => ?_)
  ·replace h := iteT hb h
   refine sem_exitS 0 (by kernel_rfl) rfl (fun τ hτ => ?_)
   refine th_exit ?_
   refine bl_miss (by kernel_rfl) ?_
   obtain rfl := Option.some.inj h
   exact lk_outS hτ rfl (here (by kernel_rfl))
  ·replace h := iteF hb h
   refine z4 ⟨[(0, (.row (.top 1000000) 36)), (2, (vI hi)), (3, (vI first)), (4, (.fn 106 [])), (10, (vI s53.1)), (11, (vI (iadd (imul 2 s53.1) 1)))], [(1000000, .row 36 [] (List.map c_Point s53.2))]⟩ (by kernel_rfl) ?_
   refine sem_seqJ (fun (j115 : Int) => ⟨[(0, (.row (.top 1000000) 36)), (2, (vI hi)), (3, (vI first)), (4, (.fn 106 [])), (10, (vI s53.1)), (11, (vI j115))], [(1000000, .row 36 [] (List.map c_Point s53.2))]⟩) (slices_siftDownCmpFunc_api_Point__geom_comparePoints_k1 first s53) r (by kernel_rfl) (fun j115 h => ?_) ?_
   ·refine sem_seq (by kernel_rfl) ?_
    refine sem_seq (by kernel_rfl) ?_
    refine sem_drawN [] [] [] [] [] 13 (by kernel_rfl) (by kernel_rfl) (by kernel_rfl) ?_
    refine evd_run 5 (by kernel_rfl) ?_
    obtain ⟨x131, hx131, h⟩ := bindS h
    refine evd_val (by kernel_rfl) (st_idxO (c := c_Point) (l := s53.2) (i := (iadd first s53.1)) (kd := .i64) (kk := (.top 1000000)) (e := 36) (sz := 4) (by kernel_rfl) (by kernel_rfl) hx131 rfl) (by kernel_rfl) (by kernel_rfl) ?_
    refine evd_val (by kernel_rfl) (st_ldO (c := c_Point) (l := s53.2) (i := (Int.toNat (iadd first s53.1))) (v := (.agg [(vI x131.X.A), (vI x131.X.B), (vI x131.Y.A), (vI x131.Y.B)])) (agg := true) (sz := 4) (kk := (.top 1000000)) (e := 36) (off := 0) (J := []) (by kernel_rfl) (by kernel_rfl) (by kernel_rfl) ((idxS hx131).2) (by kernel_rfl)) (by kernel_rfl) (by kernel_rfl) ?_
    refine evd_run 4 (by kernel_rfl) ?_
    obtain ⟨x132, hx132, h⟩ := bindS h
    refine evd_val (by kernel_rfl) (st_idxO (c := c_Point) (l := s53.2) (i := (iadd first j115)) (kd := .i64) (kk := (.top 1000000)) (e := 36) (sz := 4) (by kernel_rfl) (by kernel_rfl) hx132 rfl) (by kernel_rfl) (by kernel_rfl) ?_
    refine evd_val (by kernel_rfl) (st_ldO (c := c_Point) (l := s53.2) (i := (Int.toNat (iadd first j115))) (v := (.agg [(vI x132.X.A), (vI x132.X.B), (vI x132.Y.A), (vI x132.Y.B)])) (agg := true) (sz := 4) (kk := (.top 1000000)) (e := 36) (off := 0) (J := []) (by kernel_rfl) (by kernel_rfl) (by kernel_rfl) ((idxS hx132).2) (by kernel_rfl)) (by kernel_rfl) (by kernel_rfl) ?_
    refine evd_end (by kernel_rfl) ?_
    obtain ⟨r133, hr133, h⟩ := bindS h
    refine evo_callP [] (by kernel_rfl) (W.geom_comparePoints_ok hr133) (by kernel_rfl) (.inl rfl) (by kernel_rfl) ?_
    refine evo_run 2 (by kernel_rfl) ?_
    refine evo_endS (by kernel_rfl) (fun τ hτ => ?_)
    refine th_normalS hτ ⟨[(0, (.row (.top 1000000) 36)), (2, (vI hi)), (3, (vI first)), (4, (.fn 106 [])), (10, (vI s53.1)), (11, (vI j115)), (58, (vB (!(decide (r133 < 0)))))], [(1000000, .row 36 [] (List.map c_Point s53.2))]⟩ (here (by kernel_rfl)) ?_
    refine sem_cond (!(decide (r133 < 0))) (by kernel_rfl) (by kernel_rfl) (fun hb => ?_) (fun hb => ?_)
    ·replace h := iteT hb h
     refine sem_retS (by kernel_rfl) (fun τ hτ => ?_)
     refine th_ret ?_
     refine bl_ret ?_
     obtain rfl := Option.some.inj h
     exact lk_outS hτ rfl (here (by kernel_rfl))
    ·replace h := iteF hb h
     refine z4 ⟨[(0, (.row (.top 1000000) 36)), (2, (vI hi)), (3, (vI first)), (4, (.fn 106 [])), (10, (vI s53.1)), (11, (vI j115))], [(1000000, .row 36 [] (List.map c_Point s53.2))]⟩ (by kernel_rfl) ?_
     refine sem_seq (by kernel_rfl) ?_
     refine sem_drawN [(21, [1000000])] [] [] [(4, [1000000]), (5, [1000000]), (6, [1000000]), (7, [1000000])] [] 22 (by kernel_rfl) (by kernel_rfl) (by kernel_rfl) ?_
     refine evd_run 12 (by kernel_rfl) ?_
     obtain ⟨x142, hx142, h⟩ := bindS h
     refine evd_val (by kernel_rfl) (st_idxO (c := c_Point) (l := s53.2) (i := (iadd first j115)) (kd := .i64) (kk := (.top 1000000)) (e := 36) (sz := 4) (by kernel_rfl) (by kernel_rfl) hx142 rfl) (by kernel_rfl) (by kernel_rfl) ?_
     refine evd_val (by kernel_rfl) (st_ldO (c := c_Point) (l := s53.2) (i := (Int.toNat (iadd first j115))) (v := (.agg [(vI x142.X.A), (vI x142.X.B), (vI x142.Y.A), (vI x142.Y.B)])) (agg := true) (sz := 4) (kk := (.top 1000000)) (e := 36) (off := 0) (J := []) (by kernel_rfl) (by kernel_rfl) (by kernel_rfl) ((idxS hx142).2) (by kernel_rfl)) (by kernel_rfl) (by kernel_rfl) ?_
     refine evd_run 4 (by kernel_rfl) ?_
     obtain ⟨x143, hx143, h⟩ := bindS h
     refine evd_val (by kernel_rfl) (st_idxO (c := c_Point) (l := s53.2) (i := (iadd first s53.1)) (kd := .i64) (kk := (.top 1000000)) (e := 36) (sz := 4) (by kernel_rfl) (by kernel_rfl) hx143 rfl) (by kernel_rfl) (by kernel_rfl) ?_
     refine evd_val (by kernel_rfl) (st_ldO (c := c_Point) (l := s53.2) (i := (Int.toNat (iadd first s53.1))) (v := (.agg [(vI x143.X.A), (vI x143.X.B), (vI x143.Y.A), (vI x143.Y.B)])) (agg := true) (sz := 4) (kk := (.top 1000000)) (e := 36) (off := 0) (J := []) (by kernel_rfl) (by kernel_rfl) (by kernel_rfl) ((idxS hx143).2) (by kernel_rfl)) (by kernel_rfl) (by kernel_rfl) ?_
     obtain ⟨x144, hx144, h⟩ := bindS h
     refine evd_val (by kernel_rfl) (st_idxO (c := c_Point) (l := s53.2) (i := (iadd first s53.1)) (kd := .i64) (kk := (.top 1000000)) (e := 36) (sz := 4) (by kernel_rfl) (by kernel_rfl) hx144 rfl) (by kernel_rfl) (by kernel_rfl) ?_
     refine evd_set (by kernel_rfl) (st_stO (c := c_Point) (l := s53.2) (i := (Int.toNat (iadd first s53.1))) (x := x144) (x' := x142) (v := (.agg [(vI x142.X.A), (vI x142.X.B), (vI x142.Y.A), (vI x142.Y.B)])) (agg := true) (sz := 4) (kk := (.top 1000000)) (e := 36) (off := 0) (J := []) (o := .row 36 [] (List.map c_Point (List.set s53.2 (Int.toNat (iadd first s53.1)) x142))) (by kernel_rfl) (by kernel_rfl) (by kernel_rfl) ((idxS hx144).2) (by kernel_rfl) (by kernel_rfl) (by kernel_rfl)) (by kernel_rfl) (by kernel_rfl) (by kernel_rfl) ?_
     refine evd_end (by kernel_rfl) ?_
     obtain ⟨x145, hx145, h⟩ := bindS h
     refine evo_op (st_idxO (c := c_Point) (l := (List.set s53.2 (Int.toNat (iadd first s53.1)) x142)) (i := (iadd first j115)) (kd := .i64) (kk := (.top 1000000)) (e := 36) (sz := 4) (by kernel_rfl) (by kernel_rfl) hx145 rfl) ?_
     refine evo_op (st_stO (c := c_Point) (l := (List.set s53.2 (Int.toNat (iadd first s53.1)) x142)) (i := (Int.toNat (iadd first j115))) (x := x145) (x' := x143) (v := (.agg [(vI x143.X.A), (vI x143.X.B), (vI x143.Y.A), (vI x143.Y.B)])) (agg := true) (sz := 4) (kk := (.top 1000000)) (e := 36) (off := 0) (J := []) (o := .row 36 [] (List.map c_Point (List.set (List.set s53.2 (Int.toNat (iadd first s53.1)) x142) (Int.toNat (iadd first j115)) x143))) (by kernel_rfl) (by kernel_rfl) (by kernel_rfl) ((idxS hx145).2) (by kernel_rfl) (by kernel_rfl) (by kernel_rfl)) ?_
     refine evo_endS (by kernel_rfl) (fun τ hτ => ?_)
     refine th_normalS hτ ⟨[(0, (.row (.top 1000000) 36)), (2, (vI hi)), (3, (vI first)), (4, (.fn 106 [])), (11, (vI j115))], [(1000000, .row 36 [] (List.map c_Point (List.set (List.set s53.2 (Int.toNat (iadd first s53.1)) x142) (Int.toNat (iadd first j115)) x143)))]⟩ (here (by kernel_rfl)) ?_
     refine sem_region (by kernel_rfl) ?_
     refine z6 2 (by kernel_rfl) (fun τ hτ => ?_)
     refine bl_normal ?_
     obtain rfl := Option.some.inj h
     exact lk_nextS hτ (here (by kernel_rfl))
   refine sem_seq (by kernel_rfl) ?_
   obtain ⟨j152, hj152, h⟩ := bindS h
   refine sem_drawP ⟨[(0, (.row (.top 1000000) 36)), (2, (vI hi)), (3, (vI first)), (4, (.fn 106 [])), (10, (vI s53.1)), (11, (vI (iadd (imul 2 s53.1) 1))), (40, (vB j152))], [(1000000, .row 36 [] (List.map c_Point s53.2))]⟩ [] [] [] [] [] 19 (by kernel_rfl) (by kernel_rfl) (by kernel_rfl) ?_ (fun τ hτ => ?_)
   ·replace h := hj152
    refine evd_run 5 (by kernel_rfl) ?_
    refine evd_split (decide ((iadd (iadd (imul 2 s53.1) 1) 1) < hi)) (fun b0 => ⟨[(23, (vB b0)), (22, (vB b0)), (21, (vI hi)), (20, (vI (iadd (iadd (imul 2 s53.1) 1) 1))), (19, (vI (iadd (imul 2 s53.1) 1))), (0, (.row (.top 1000000) 36)), (2, (vI hi)), (3, (vI first)), (4, (.fn 106 [])), (10, (vI s53.1)), (11, (vI (iadd (imul 2 s53.1) 1)))], [(1000000, .row 36 [] (List.map c_Point s53.2))]⟩) (by kernel_rfl) (fun hb => ?_) (fun hb => ?_)
    ·replace h := iteT hb h
     refine evd_run 5 (by kernel_rfl) ?_
     obtain ⟨x153, hx153, h⟩ := bindS h
     refine evd_val (by kernel_rfl) (st_idxO (c := c_Point) (l := s53.2) (i := (iadd first (iadd (imul 2 s53.1) 1))) (kd := .i64) (kk := (.top 1000000)) (e := 36) (sz := 4) (by kernel_rfl) (by kernel_rfl) hx153 rfl) (by kernel_rfl) (by kernel_rfl) ?_
     refine evd_val (by kernel_rfl) (st_ldO (c := c_Point) (l := s53.2) (i := (Int.toNat (iadd first (iadd (imul 2 s53.1) 1)))) (v := (.agg [(vI x153.X.A), (vI x153.X.B), (vI x153.Y.A), (vI x153.Y.B)])) (agg := true) (sz := 4) (kk := (.top 1000000)) (e := 36) (off := 0) (J := []) (by kernel_rfl) (by kernel_rfl) (by kernel_rfl) ((idxS hx153).2) (by kernel_rfl)) (by kernel_rfl) (by kernel_rfl) ?_
     refine evd_run 5 (by kernel_rfl) ?_
     obtain ⟨x154, hx154, h⟩ := bindS h
     refine evd_val (by kernel_rfl) (st_idxO (c := c_Point) (l := s53.2) (i := (iadd (iadd first (iadd (imul 2 s53.1) 1)) 1)) (kd := .i64) (kk := (.top 1000000)) (e := 36) (sz := 4) (by kernel_rfl) (by kernel_rfl) hx154 rfl) (by kernel_rfl) (by kernel_rfl) ?_
     refine evd_val (by kernel_rfl) (st_ldO (c := c_Point) (l := s53.2) (i := (Int.toNat (iadd (iadd first (iadd (imul 2 s53.1) 1)) 1))) (v := (.agg [(vI x154.X.A), (vI x154.X.B), (vI x154.Y.A), (vI x154.Y.B)])) (agg := true) (sz := 4) (kk := (.top 1000000)) (e := 36) (off := 0) (J := []) (by kernel_rfl) (by kernel_rfl) (by kernel_rfl) ((idxS hx154).2) (by kernel_rfl)) (by kernel_rfl) (by kernel_rfl) ?_
     refine evd_end (by kernel_rfl) ?_
     obtain ⟨r155, hr155, h⟩ := bindS h
     refine evo_callP [] (by kernel_rfl) (W.geom_comparePoints_ok hr155) (by kernel_rfl) (.inl rfl) (by kernel_rfl) ?_
     refine evo_run 2 (by kernel_rfl) ?_
     refine evo_endS (by kernel_rfl) (fun τ hτ => ?_)
     obtain rfl := Option.some.inj h
     exact leafC hτ (here (by kernel_rfl))
    ·replace h := iteF hb h
     refine evd_run 14 (by kernel_rfl) ?_
     refine evd_end (by kernel_rfl) ?_
     refine evo_run 3 (by kernel_rfl) ?_
     refine evo_endS (by kernel_rfl) (fun τ hτ => ?_)
     obtain rfl := Option.some.inj h
     exact leafC hτ (here (by kernel_rfl))
   refine th_normalS hτ ⟨[(0, (.row (.top 1000000) 36)), (2, (vI hi)), (3, (vI first)), (4, (.fn 106 [])), (10, (vI s53.1)), (11, (vI (iadd (imul 2 s53.1) 1))), (40, (vB j152))], [(1000000, .row 36 [] (List.map c_Point s53.2))]⟩ (here (by kernel_rfl)) ?_
   refine sem_cond j152 (by kernel_rfl) (by kernel_rfl) (fun hb => ?_) (fun hb => ?_)
   ·replace h := iteT hb h
    refine sem_region (by kernel_rfl) ?_
    refine z6 3 (by kernel_rfl) (fun τ hτ => ?_)
    exact jk_normal (iadd (iadd (imul 2 s53.1) 1) 1) h hτ (here (by kernel_rfl))
   ·replace h := iteF hb h
    refine sem_skipS (by kernel_rfl) (fun τ hτ => ?_)
    exact jk_normal (iadd (imul 2 s53.1) 1) h hτ (here (by kernel_rfl))
 ·intro x
  rcases x with _ | _ <;> rfl
 ·intro τ hτ
  rcases x156 with j157 | j158
  ·refine bl_hit (by kernel_rfl) ?_
   obtain rfl := Option.some.inj h
   exact rk_normal hτ [] (here (by kernel_rfl)) (by kernel_rfl)
  ·refine bl_ret ?_
   obtain rfl := Option.some.inj h
   exact rk_ret hτ [] (here (by kernel_rfl)) (by kernel_rfl)
theorem W.slices_heapSortCmpFunc_api_Point__geom_comparePoints_ok {a : Int} {b : Int} {h0 : (List Point)} {r : (List Point)} (h : slices_heapSortCmpFunc_api_Point__geom_comparePoints a b h0 = some r) : PC G.P 127 [(.row (.top 1000000) 36), (vI a), (vI b), (.fn 106 [])] [(1000000, .row 36 [] (List.map c_Point h0))] (.tup []) [(1000000, .row 36 [] (List.map c_Point r))] := by
 refine pc_of G (fn := Try.f127) Try.func127 (by kernel_rfl) (by kernel_rfl) (by kernel_rfl) (by kernel_rfl) (by kernel_rfl) ?_
 refine sem_set ⟨[(0, (.row (.top 1000000) 36)), (1, (vI a)), (2, (vI b)), (3, (.fn 106 []))], [(1000000, .row 36 [] (List.map c_Point h0))]⟩ (by kernel_rfl) ?_
 refine z3 2 ⟨[(0, (.row (.top 1000000) 36)), (1, (vI a)), (2, (vI b)), (3, (.fn 106 [])), (8, (vI a))], [(1000000, .row 36 [] (List.map c_Point h0))]⟩ (by kernel_rfl) ?_
 refine z3 1 ⟨[(0, (.row (.top 1000000) 36)), (1, (vI a)), (2, (vI b)), (3, (.fn 106 [])), (8, (vI a)), (9, (vI 0))], [(1000000, .row 36 [] (List.map c_Point h0))]⟩ (by kernel_rfl) ?_
 refine z3 4 ⟨[(0, (.row (.top 1000000) 36)), (3, (.fn 106 [])), (8, (vI a)), (9, (vI 0)), (10, (vI (isub b a)))], [(1000000, .row 36 [] (List.map c_Point h0))]⟩ (by kernel_rfl) ?_
 refine sem_seq (by kernel_rfl) ?_
 refine z3 4 ⟨[(0, (.row (.top 1000000) 36)), (3, (.fn 106 [])), (8, (vI a)), (9, (vI 0)), (10, (vI (isub b a))), (11, (vI (iquo (isub (isub b a) 1) 2)))], [(1000000, .row 36 [] (List.map c_Point h0))]⟩ (by kernel_rfl) ?_
 refine sem_block (by kernel_rfl) ?_
 obtain ⟨x30, hx30, h⟩ := bindS h
 refine sem_loopS (fun (s21 : Int × (List Point)) => ⟨[(0, (.row (.top 1000000) 36)), (3, (.fn 106 [])), (8, (vI a)), (9, (vI 0)), (10, (vI (isub b a))), (11, (vI s21.1))], [(1000000, .row 36 [] (List.map c_Point s21.2))]⟩) (fun (x30 : (List Point)) => (.exit 0, ⟨[(0, (.row (.top 1000000) 36)), (3, (.fn 106 [])), (8, (vI a)), (9, (vI 0)), (10, (vI (isub b a)))], [(1000000, .row 36 [] (List.map c_Point x30))]⟩)) (slices_heapSortCmpFunc_api_Point__geom_comparePoints_l1 a b) ((iquo (isub (isub b a) 1) 2), h0) x30 (by kernel_rfl) (here (by kernel_rfl)) hx30 ?_ ?_ ?_
 ·intro s21 r h
  refine sem_seq (by kernel_rfl) ?_
  refine z3 2 ⟨[(0, (.row (.top 1000000) 36)), (3, (.fn 106 [])), (8, (vI a)), (9, (vI 0)), (10, (vI (isub b a))), (11, (vI s21.1)), (21, (vB (decide (s21.1 ≥ 0))))], [(1000000, .row 36 [] (List.map c_Point s21.2))]⟩ (by kernel_rfl) ?_
  refine sem_cond (decide (s21.1 ≥ 0)) (by kernel_rfl) (by kernel_rfl) (fun hb => ?_) (fun hb => ?_)
  ·replace h := iteT hb h
   refine z4 ⟨[(0, (.row (.top 1000000) 36)), (3, (.fn 106 [])), (8, (vI a)), (9, (vI 0)), (10, (vI (isub b a))), (11, (vI s21.1))], [(1000000, .row 36 [] (List.map c_Point s21.2))]⟩ (by kernel_rfl) ?_
   refine sem_seq (by kernel_rfl) ?_
   refine sem_block (by kernel_rfl) ?_
   refine sem_region (by kernel_rfl) ?_
   refine evs_run 5 (by kernel_rfl) ?_
   obtain ⟨r29, hr29, h⟩ := bindS h
   refine evs_callS [(1000000, 1000000)] [] [] (by kernel_rfl) (W.slices_siftDownCmpFunc_api_Point__geom_comparePoints_ok hr29) (by kernel_rfl) (by kernel_rfl) (.inl rfl) ?_
   refine evs_endS (by kernel_rfl) (fun τ hτ => ?_)
   refine bl_normal ?_
   refine th_normalS hτ ⟨[(0, (.row (.top 1000000) 36)), (3, (.fn 106 [])), (8, (vI a)), (9, (vI 0)), (10, (vI (isub b a))), (11, (vI s21.1))], [(1000000, .row 36 [] (List.map c_Point r29))]⟩ (here (by kernel_rfl)) ?_
   refine sem_region (by kernel_rfl) ?_
   refine z6 3 (by kernel_rfl) (fun τ hτ => ?_)
   obtain rfl := Option.some.inj h
   exact lk_nextS hτ (here (by kernel_rfl))
  ·replace h := iteF hb h
   refine sem_exitS 0 (by kernel_rfl) rfl (fun τ hτ => ?_)
   refine th_exit ?_
   obtain rfl := Option.some.inj h
   exact lk_outS hτ rfl (here (by kernel_rfl))
 ·intro x
  rfl
 ·intro τ hτ
  refine bl_hit (by kernel_rfl) ?_
  refine th_normalS hτ ⟨[(0, (.row (.top 1000000) 36)), (3, (.fn 106 [])), (8, (vI a)), (9, (vI 0)), (10, (vI (isub b a)))], [(1000000, .row 36 [] (List.map c_Point x30))]⟩ (here (by kernel_rfl)) ?_
  refine z3 3 ⟨[(0, (.row (.top 1000000) 36)), (3, (.fn 106 [])), (8, (vI a)), (9, (vI 0)), (12, (vI (isub (isub b a) 1)))], [(1000000, .row 36 [] (List.map c_Point x30))]⟩ (by kernel_rfl) ?_
  refine sem_block (by kernel_rfl) ?_
  obtain ⟨x117, hx117, h⟩ := bindS h
  refine sem_loopS (fun (s60 : Int × (List Point)) => ⟨[(0, (.row (.top 1000000) 36)), (3, (.fn 106 [])), (8, (vI a)), (9, (vI 0)), (12, (vI s60.1))], [(1000000, .row 36 [] (List.map c_Point s60.2))]⟩) (fun (x117 : (List Point)) => (.exit 2, ⟨[], [(1000000, .row 36 [] (List.map c_Point x117))]⟩)) (slices_heapSortCmpFunc_api_Point__geom_comparePoints_l2 a) ((isub (isub b a) 1), x30) x117 (by kernel_rfl) (here (by kernel_rfl)) hx117 ?_ ?_ ?_
  ·intro s60 r h
   refine sem_seq (by kernel_rfl) ?_
   refine z3 2 ⟨[(0, (.row (.top 1000000) 36)), (3, (.fn 106 [])), (8, (vI a)), (9, (vI 0)), (12, (vI s60.1)), (33, (vB (decide (s60.1 ≥ 0))))], [(1000000, .row 36 [] (List.map c_Point s60.2))]⟩ (by kernel_rfl) ?_
   refine sem_cond (decide (s60.1 ≥ 0)) (by kernel_rfl) (by kernel_rfl) (fun hb => ?_) (fun hb => ?_)
   ·replace h := iteT hb h
    refine z4 ⟨[(0, (.row (.top 1000000) 36)), (3, (.fn 106 [])), (8, (vI a)), (9, (vI 0)), (12, (vI s60.1))], [(1000000, .row 36 [] (List.map c_Point s60.2))]⟩ (by kernel_rfl) ?_
    refine sem_seq (by kernel_rfl) ?_
    refine sem_block (by kernel_rfl) ?_
    refine sem_seq (by kernel_rfl) ?_
    refine sem_drawN [(17, [1000000])] [] [] [(2, [1000000]), (3, [1000000]), (4, [1000000]), (5, [1000000])] [] 18 (by kernel_rfl) (by kernel_rfl) (by kernel_rfl) ?_
    refine evd_run 10 (by kernel_rfl) ?_
    obtain ⟨x111, hx111, h⟩ := bindS h
    refine evd_val (by kernel_rfl) (st_idxO (c := c_Point) (l := s60.2) (i := (iadd a s60.1)) (kd := .i64) (kk := (.top 1000000)) (e := 36) (sz := 4) (by kernel_rfl) (by kernel_rfl) hx111 rfl) (by kernel_rfl) (by kernel_rfl) ?_
    refine evd_val (by kernel_rfl) (st_ldO (c := c_Point) (l := s60.2) (i := (Int.toNat (iadd a s60.1))) (v := (.agg [(vI x111.X.A), (vI x111.X.B), (vI x111.Y.A), (vI x111.Y.B)])) (agg := true) (sz := 4) (kk := (.top 1000000)) (e := 36) (off := 0) (J := []) (by kernel_rfl) (by kernel_rfl) (by kernel_rfl) ((idxS hx111).2) (by kernel_rfl)) (by kernel_rfl) (by kernel_rfl) ?_
    refine evd_run 2 (by kernel_rfl) ?_
    obtain ⟨x112, hx112, h⟩ := bindS h
    refine evd_val (by kernel_rfl) (st_idxO (c := c_Point) (l := s60.2) (i := a) (kd := .i64) (kk := (.top 1000000)) (e := 36) (sz := 4) (by kernel_rfl) (by kernel_rfl) hx112 rfl) (by kernel_rfl) (by kernel_rfl) ?_
    refine evd_val (by kernel_rfl) (st_ldO (c := c_Point) (l := s60.2) (i := (Int.toNat a)) (v := (.agg [(vI x112.X.A), (vI x112.X.B), (vI x112.Y.A), (vI x112.Y.B)])) (agg := true) (sz := 4) (kk := (.top 1000000)) (e := 36) (off := 0) (J := []) (by kernel_rfl) (by kernel_rfl) (by kernel_rfl) ((idxS hx112).2) (by kernel_rfl)) (by kernel_rfl) (by kernel_rfl) ?_
    obtain ⟨x113, hx113, h⟩ := bindS h
    refine evd_val (by kernel_rfl) (st_idxO (c := c_Point) (l := s60.2) (i := a) (kd := .i64) (kk := (.top 1000000)) (e := 36) (sz := 4) (by kernel_rfl) (by kernel_rfl) hx113 rfl) (by kernel_rfl) (by kernel_rfl) ?_
    refine evd_set (by kernel_rfl) (st_stO (c := c_Point) (l := s60.2) (i := (Int.toNat a)) (x := x113) (x' := x111) (v := (.agg [(vI x111.X.A), (vI x111.X.B), (vI x111.Y.A), (vI x111.Y.B)])) (agg := true) (sz := 4) (kk := (.top 1000000)) (e := 36) (off := 0) (J := []) (o := .row 36 [] (List.map c_Point (List.set s60.2 (Int.toNat a) x111))) (by kernel_rfl) (by kernel_rfl) (by kernel_rfl) ((idxS hx113).2) (by kernel_rfl) (by kernel_rfl) (by kernel_rfl)) (by kernel_rfl) (by kernel_rfl) (by kernel_rfl) ?_
    refine evd_end (by kernel_rfl) ?_
    obtain ⟨x114, hx114, h⟩ := bindS h
    refine evo_op (st_idxO (c := c_Point) (l := (List.set s60.2 (Int.toNat a) x111)) (i := (iadd a s60.1)) (kd := .i64) (kk := (.top 1000000)) (e := 36) (sz := 4) (by kernel_rfl) (by kernel_rfl) hx114 rfl) ?_
    refine evo_op (st_stO (c := c_Point) (l := (List.set s60.2 (Int.toNat a) x111)) (i := (Int.toNat (iadd a s60.1))) (x := x114) (x' := x112) (v := (.agg [(vI x112.X.A), (vI x112.X.B), (vI x112.Y.A), (vI x112.Y.B)])) (agg := true) (sz := 4) (kk := (.top 1000000)) (e := 36) (off := 0) (J := []) (o := .row 36 [] (List.map c_Point (List.set (List.set s60.2 (Int.toNat a) x111) (Int.toNat (iadd a s60.1)) x112))) (by kernel_rfl) (by kernel_rfl) (by kernel_rfl) ((idxS hx114).2) (by kernel_rfl) (by kernel_rfl) (by kernel_rfl)) ?_
    refine evo_endS (by kernel_rfl) (fun τ hτ => ?_)
    refine th_normalS hτ ⟨[(0, (.row (.top 1000000) 36)), (3, (.fn 106 [])), (8, (vI a)), (9, (vI 0)), (12, (vI s60.1))], [(1000000, .row 36 [] (List.map c_Point (List.set (List.set s60.2 (Int.toNat a) x111) (Int.toNat (iadd a s60.1)) x112)))]⟩ (here (by kernel_rfl)) ?_
    refine sem_region (by kernel_rfl) ?_
    refine evs_run 5 (by kernel_rfl) ?_
    obtain ⟨r116, hr116, h⟩ := bindS h
    refine evs_callS [(1000000, 1000000)] [] [] (by kernel_rfl) (W.slices_siftDownCmpFunc_api_Point__geom_comparePoints_ok hr116) (by kernel_rfl) (by kernel_rfl) (.inl rfl) ?_
    refine evs_endS (by kernel_rfl) (fun τ hτ => ?_)
    refine bl_normal ?_
    refine th_normalS hτ ⟨[(0, (.row (.top 1000000) 36)), (3, (.fn 106 [])), (8, (vI a)), (9, (vI 0)), (12, (vI s60.1))], [(1000000, .row 36 [] (List.map c_Point r116))]⟩ (here (by kernel_rfl)) ?_
    refine sem_region (by kernel_rfl) ?_
    refine z6 3 (by kernel_rfl) (fun τ hτ => ?_)
    obtain rfl := Option.some.inj h
    exact lk_nextS hτ (here (by kernel_rfl))
   ·replace h := iteF hb h
    refine sem_exitS 2 (by kernel_rfl) rfl (fun τ hτ => ?_)
    refine th_exit ?_
    obtain rfl := Option.some.inj h
    exact lk_outS hτ rfl (here (by kernel_rfl))
  ·intro x
   rfl
  ·intro τ hτ
   refine bl_hit (by kernel_rfl) ?_
   obtain rfl := Option.some.inj h
   exact rk_normal hτ [] (here (by kernel_rfl)) (by kernel_rfl)
theorem W.slices_nextPowerOfTwo_ok {length : Int} {r : Int} (h : slices_nextPowerOfTwo length = some r) : PC G.P 145 [(vI length)] [] (vK .u64 r) [] := by
 refine pc_of G (fn := Try.f145) Try.func145 (by kernel_rfl) (by kernel_rfl) (by kernel_rfl) (by kernel_rfl) (by kernel_rfl) ?_
 refine sem_set ⟨[(0, (vI length))], []⟩ (by kernel_rfl) ?_
 refine z3 1 ⟨[(0, (vI length))], []⟩ (by kernel_rfl) ?_
 refine z7 (by kernel_rfl) ?_
 refine evs_run 2 (by kernel_rfl) ?_
 obtain ⟨r2, hr2, h⟩ := bindS h
 refine evs_callP [] (by kernel_rfl) (W.bits_Len_ok hr2) (by kernel_rfl) (.inl rfl) (by kernel_rfl) ?_
 obtain ⟨hb, h⟩ := iteN h
 refine evs_op (st_shl (a := 1) (b := r2) (kd := .u64) (k2 := .i64) (by kernel_rfl) (of_decide_eq_true hb)) ?_
 refine z1 1 ⟨[(2, (vK .u64 (IntKind.wrap .u64 (1 * 2 ^ (min (Int.toNat r2) 64)))))], []⟩ (by kernel_rfl) ?_
 refine sem_retS (by kernel_rfl) (fun τ hτ => ?_)
 obtain rfl := Option.some.inj h
 exact rk_ret hτ [(2, (vK .u64 (IntKind.wrap .u64 (1 * 2 ^ (min (Int.toNat r2) 64)))))] (here (by kernel_rfl)) (by kernel_rfl)
theorem W.slices_xorshift_Next_ok {h0_0 : Int} {r : Int} (h : slices_xorshift_Next h0_0 = some r) : PC G.P 146 [(.ptr 1000000 0)] [(1000000, .box [(vK .u64 h0_0)])] (vK .u64 r) [(1000000, .box [(vK .u64 (kxor .u64 (kxor .u64 (kxor .u64 h0_0 (IntKind.wrap .u64 (h0_0 * 2 ^ (min (Int.toNat 13) 64)))) (Int.fdiv (kxor .u64 h0_0 (IntKind.wrap .u64 (h0_0 * 2 ^ (min (Int.toNat 13) 64)))) (2 ^ (min (Int.toNat 7) 64)))) (IntKind.wrap .u64 ((kxor .u64 (kxor .u64 h0_0 (IntKind.wrap .u64 (h0_0 * 2 ^ (min (Int.toNat 13) 64)))) (Int.fdiv (kxor .u64 h0_0 (IntKind.wrap .u64 (h0_0 * 2 ^ (min (Int.toNat 13) 64)))) (2 ^ (min (Int.toNat 7) 64)))) * 2 ^ (min (Int.toNat 17) 64)))))])] := by
 refine pc_of G (fn := Try.f146) Try.func146 (by kernel_rfl) (by kernel_rfl) (by kernel_rfl) (by kernel_rfl) (by kernel_rfl) ?_
 refine sem_set ⟨[(0, (.ptr 1000000 0))], [(1000000, .box [(vK .u64 h0_0)])]⟩ (by kernel_rfl) ?_
 refine z3 1 ⟨[(0, (.ptr 1000000 0))], [(1000000, .box [(vK .u64 h0_0)])]⟩ (by kernel_rfl) ?_
 refine sem_seq (by kernel_rfl) ?_
 refine sem_drawN [] [] [] [] [] 7 (by kernel_rfl) (by kernel_rfl) (by kernel_rfl) ?_
 refine evd_run 7 (by kernel_rfl) ?_
 refine evd_end (by kernel_rfl) ?_
 refine evo_run 3 (by kernel_rfl) ?_
 refine evo_endS (by kernel_rfl) (fun τ hτ => ?_)
 refine th_normalS hτ ⟨[(0, (.ptr 1000000 0))], [(1000000, .box [(vK .u64 (kxor .u64 h0_0 (IntKind.wrap .u64 (h0_0 * 2 ^ (min (Int.toNat 13) 64)))))])]⟩ (here (by kernel_rfl)) ?_
 refine sem_seq (by kernel_rfl) ?_
 refine sem_drawN [] [] [] [] [] 7 (by kernel_rfl) (by kernel_rfl) (by kernel_rfl) ?_
 refine evd_run 7 (by kernel_rfl) ?_
 refine evd_end (by kernel_rfl) ?_
 refine evo_run 3 (by kernel_rfl) ?_
 refine evo_endS (by kernel_rfl) (fun τ hτ => ?_)
 refine th_normalS hτ ⟨[(0, (.ptr 1000000 0))], [(1000000, .box [(vK .u64 (kxor .u64 (kxor .u64 h0_0 (IntKind.wrap .u64 (h0_0 * 2 ^ (min (Int.toNat 13) 64)))) (Int.fdiv (kxor .u64 h0_0 (IntKind.wrap .u64 (h0_0 * 2 ^ (min (Int.toNat 13) 64)))) (2 ^ (min (Int.toNat 7) 64)))))])]⟩ (here (by kernel_rfl)) ?_
 refine sem_seq (by kernel_rfl) ?_
 refine sem_drawN [] [] [] [] [] 7 (by kernel_rfl) (by kernel_rfl) (by kernel_rfl) ?_
 refine evd_run 7 (by kernel_rfl) ?_
 refine evd_end (by kernel_rfl) ?_
 refine evo_run 3 (by kernel_rfl) ?_
 refine evo_endS (by kernel_rfl) (fun τ hτ => ?_)
 refine th_normalS hτ ⟨[(0, (.ptr 1000000 0))], [(1000000, .box [(vK .u64 (kxor .u64 (kxor .u64 (kxor .u64 h0_0 (IntKind.wrap .u64 (h0_0 * 2 ^ (min (Int.toNat 13) 64)))) (Int.fdiv (kxor .u64 h0_0 (IntKind.wrap .u64 (h0_0 * 2 ^ (min (Int.toNat 13) 64)))) (2 ^ (min (Int.toNat 7) 64)))) (IntKind.wrap .u64 ((kxor .u64 (kxor .u64 h0_0 (IntKind.wrap .u64 (h0_0 * 2 ^ (min (Int.toNat 13) 64)))) (Int.fdiv (kxor .u64 h0_0 (IntKind.wrap .u64 (h0_0 * 2 ^ (min (Int.toNat 13) 64)))) (2 ^ (min (Int.toNat 7) 64)))) * 2 ^ (min (Int.toNat 17) 64)))))])]⟩ (here (by kernel_rfl)) ?_
 refine z8 4 ⟨[(2, (vK .u64 (kxor .u64 (kxor .u64 (kxor .u64 h0_0 (IntKind.wrap .u64 (h0_0 * 2 ^ (min (Int.toNat 13) 64)))) (Int.fdiv (kxor .u64 h0_0 (IntKind.wrap .u64 (h0_0 * 2 ^ (min (Int.toNat 13) 64)))) (2 ^ (min (Int.toNat 7) 64)))) (IntKind.wrap .u64 ((kxor .u64 (kxor .u64 h0_0 (IntKind.wrap .u64 (h0_0 * 2 ^ (min (Int.toNat 13) 64)))) (Int.fdiv (kxor .u64 h0_0 (IntKind.wrap .u64 (h0_0 * 2 ^ (min (Int.toNat 13) 64)))) (2 ^ (min (Int.toNat 7) 64)))) * 2 ^ (min (Int.toNat 17) 64))))))], [(1000000, .box [(vK .u64 (kxor .u64 (kxor .u64 (kxor .u64 h0_0 (IntKind.wrap .u64 (h0_0 * 2 ^ (min (Int.toNat 13) 64)))) (Int.fdiv (kxor .u64 h0_0 (IntKind.wrap .u64 (h0_0 * 2 ^ (min (Int.toNat 13) 64)))) (2 ^ (min (Int.toNat 7) 64)))) (IntKind.wrap .u64 ((kxor .u64 (kxor .u64 h0_0 (IntKind.wrap .u64 (h0_0 * 2 ^ (min (Int.toNat 13) 64)))) (Int.fdiv (kxor .u64 h0_0 (IntKind.wrap .u64 (h0_0 * 2 ^ (min (Int.toNat 13) 64)))) (2 ^ (min (Int.toNat 7) 64)))) * 2 ^ (min (Int.toNat 17) 64)))))])]⟩ (by kernel_rfl) (fun τ hτ => ?_)
 obtain rfl := Option.some.inj h
 exact rk_ret hτ [(2, (vK .u64 (kxor .u64 (kxor .u64 (kxor .u64 h0_0 (IntKind.wrap .u64 (h0_0 * 2 ^ (min (Int.toNat 13) 64)))) (Int.fdiv (kxor .u64 h0_0 (IntKind.wrap .u64 (h0_0 * 2 ^ (min (Int.toNat 13) 64)))) (2 ^ (min (Int.toNat 7) 64)))) (IntKind.wrap .u64 ((kxor .u64 (kxor .u64 h0_0 (IntKind.wrap .u64 (h0_0 * 2 ^ (min (Int.toNat 13) 64)))) (Int.fdiv (kxor .u64 h0_0 (IntKind.wrap .u64 (h0_0 * 2 ^ (min (Int.toNat 13) 64)))) (2 ^ (min (Int.toNat 7) 64)))) * 2 ^ (min (Int.toNat 17) 64))))))] (here (by kernel_rfl)) (by kernel_rfl)
theorem W.slices_breakPatternsCmpFunc_api_Point__geom_comparePoints_ok {a : Int} {b : Int} {h0 : (List Point)} {r : (List Point)} (h : slices_breakPatternsCmpFunc_api_Point__geom_comparePoints a b h0 = some r) : PC G.P 128 [(.row (.top 1000000) 36), (vI a), (vI b), (.fn 106 [])] [(1000000, .row 36 [] (List.map c_Point h0))] (.tup []) [(1000000, .row 36 [] (List.map c_Point r))] := by
 refine pc_of G (fn := Try.f128) Try.func128 (by kernel_rfl) (by kernel_rfl) (by kernel_rfl) (by kernel_rfl) (by kernel_rfl) ?_
 refine sem_set ⟨[(0, (.row (.top 1000000) 36)), (1, (vI a)), (2, (vI b))], [(1000000, .row 36 [] (List.map c_Point h0))]⟩ (by kernel_rfl) ?_
 refine z3 4 ⟨[(0, (.row (.top 1000000) 36)), (1, (vI a)), (8, (vI (isub b a)))], [(1000000, .row 36 [] (List.map c_Point h0))]⟩ (by kernel_rfl) ?_
 refine z3 2 ⟨[(0, (.row (.top 1000000) 36)), (1, (vI a)), (8, (vI (isub b a))), (17, (vB (decide ((isub b a) ≥ 8))))], [(1000000, .row 36 [] (List.map c_Point h0))]⟩ (by kernel_rfl) ?_
 refine sem_cond (decide ((isub b a) ≥ 8)) (by kernel_rfl) (by kernel_rfl) (fun hb => ?_) (fun hb => ?_)
 ·replace h := iteT hb h
  refine z3 4 ⟨[(0, (.row (.top 1000000) 36)), (1, (vI a)), (8, (vI (isub b a))), (9, (.ptr 9 0))], [(9, .box [(vK .u64 (IntKind.wrap .u64 (isub b a)))]), (1000000, .row 36 [] (List.map c_Point h0))]⟩ (by kernel_rfl) ?_
  refine z7 (by kernel_rfl) ?_
  refine evs_run 1 (by kernel_rfl) ?_
  obtain ⟨r2, hr2, h⟩ := bindS h
  refine evs_callP [] (by kernel_rfl) (W.slices_nextPowerOfTwo_ok hr2) (by kernel_rfl) (.inl rfl) (by kernel_rfl) ?_
  refine z1 1 ⟨[(0, (.row (.top 1000000) 36)), (1, (vI a)), (8, (vI (isub b a))), (9, (.ptr 9 0)), (10, (vK .u64 r2))], [(9, .box [(vK .u64 (IntKind.wrap .u64 (isub b a)))]), (1000000, .row 36 [] (List.map c_Point h0))]⟩ (by kernel_rfl) ?_
  refine z3 7 ⟨[(0, (.row (.top 1000000) 36)), (1, (vI a)), (8, (vI (isub b a))), (9, (.ptr 9 0)), (10, (vK .u64 r2)), (11, (vI (isub (iadd a (imul (iquo (isub b a) 4) 2)) 1)))], [(9, .box [(vK .u64 (IntKind.wrap .u64 (isub b a)))]), (1000000, .row 36 [] (List.map c_Point h0))]⟩ (by kernel_rfl) ?_
  refine sem_block (by kernel_rfl) ?_
  obtain ⟨x95, hx95, h⟩ := bindS h
  refine sem_loopS (fun (s34 : Int × Int × (List Point)) => ⟨[(0, (.row (.top 1000000) 36)), (1, (vI a)), (8, (vI (isub b a))), (9, (.ptr 500000 0)), (10, (vK .u64 r2)), (11, (vI s34.1))], [(500000, .box [(vK .u64 s34.2.1)]), (1000000, .row 36 [] (List.map c_Point s34.2.2))]⟩) (fun (x95 : (List Point)) => (.exit 0, ⟨[], [(1000000, .row 36 [] (List.map c_Point x95))]⟩)) (slices_breakPatternsCmpFunc_api_Point__geom_comparePoints_l2 a b r2) ((isub (iadd a (imul (iquo (isub b a) 4) 2)) 1), (IntKind.wrap .u64 (isub b a)), h0) x95 (by kernel_rfl) (subR_prep [] [(9, 500000), (1000000, 1000000)] (by kernel_rfl) rfl rfl (by kernel_rfl)) hx95 ?_ ?_ ?_
  ·intro s34 r h
   refine sem_seq (by kernel_rfl) ?_
   refine z3 8 ⟨[(0, (.row (.top 1000000) 36)), (1, (vI a)), (8, (vI (isub b a))), (9, (.ptr 500000 0)), (10, (vK .u64 r2)), (11, (vI s34.1)), (35, (vB (decide (s34.1 ≤ (iadd (iadd a (imul (iquo (isub b a) 4) 2)) 1)))))], [(500000, .box [(vK .u64 s34.2.1)]), (1000000, .row 36 [] (List.map c_Point s34.2.2))]⟩ (by kernel_rfl) ?_
   refine sem_cond (decide (s34.1 ≤ (iadd (iadd a (imul (iquo (isub b a) 4) 2)) 1))) (by kernel_rfl) (by kernel_rfl) (fun hb => ?_) (fun hb => ?_)
   ·replace h := iteT hb h
    refine z4 ⟨[(0, (.row (.top 1000000) 36)), (1, (vI a)), (8, (vI (isub b a))), (9, (.ptr 500000 0)), (10, (vK .u64 r2)), (11, (vI s34.1))], [(500000, .box [(vK .u64 s34.2.1)]), (1000000, .row 36 [] (List.map c_Point s34.2.2))]⟩ (by kernel_rfl) ?_
    refine sem_seq (by kernel_rfl) ?_
    refine sem_block (by kernel_rfl) ?_
    refine z7 (by kernel_rfl) ?_
    obtain ⟨r81, hr81, h⟩ := bindS h
    refine evs_callS [(1000000, 500000)] [] [] (by kernel_rfl) (W.slices_xorshift_Next_ok hr81) (by kernel_rfl) (by kernel_rfl) (.inl rfl) ?_
    refine z1 5 ⟨[(0, (.row (.top 1000000) 36)), (1, (vI a)), (8, (vI (isub b a))), (9, (.ptr 500000 0)), (10, (vK .u64 r2)), (11, (vI s34.1)), (12, (vI (IntKind.wrap .i64 (kand .u64 r81 (IntKind.wrap .u64 (r2 - 1))))))], [(500000, .box [(vK .u64 (kxor .u64 (kxor .u64 (kxor .u64 s34.2.1 (IntKind.wrap .u64 (s34.2.1 * 2 ^ (min (Int.toNat 13) 64)))) (Int.fdiv (kxor .u64 s34.2.1 (IntKind.wrap .u64 (s34.2.1 * 2 ^ (min (Int.toNat 13) 64)))) (2 ^ (min (Int.toNat 7) 64)))) (IntKind.wrap .u64 ((kxor .u64 (kxor .u64 s34.2.1 (IntKind.wrap .u64 (s34.2.1 * 2 ^ (min (Int.toNat 13) 64)))) (Int.fdiv (kxor .u64 s34.2.1 (IntKind.wrap .u64 (s34.2.1 * 2 ^ (min (Int.toNat 13) 64)))) (2 ^ (min (Int.toNat 7) 64)))) * 2 ^ (min (Int.toNat 17) 64)))))]), (1000000, .row 36 [] (List.map c_Point s34.2.2))]⟩ (by kernel_rfl) ?_
    refine sem_seqJ (fun (j82 : Int) => ⟨[(0, (.row (.top 1000000) 36)), (1, (vI a)), (8, (vI (isub b a))), (9, (.ptr 500000 0)), (10, (vK .u64 r2)), (11, (vI s34.1)), (12, (vI j82))], [(500000, .box [(vK .u64 (kxor .u64 (kxor .u64 (kxor .u64 s34.2.1 (IntKind.wrap .u64 (s34.2.1 * 2 ^ (min (Int.toNat 13) 64)))) (Int.fdiv (kxor .u64 s34.2.1 (IntKind.wrap .u64 (s34.2.1 * 2 ^ (min (Int.toNat 13) 64)))) (2 ^ (min (Int.toNat 7) 64)))) (IntKind.wrap .u64 ((kxor .u64 (kxor .u64 s34.2.1 (IntKind.wrap .u64 (s34.2.1 * 2 ^ (min (Int.toNat 13) 64)))) (Int.fdiv (kxor .u64 s34.2.1 (IntKind.wrap .u64 (s34.2.1 * 2 ^ (min (Int.toNat 13) 64)))) (2 ^ (min (Int.toNat 7) 64)))) * 2 ^ (min (Int.toNat 17) 64)))))]), (1000000, .row 36 [] (List.map c_Point s34.2.2))]⟩) (slices_breakPatternsCmpFunc_api_Point__geom_comparePoints_k1 a s34) r (by kernel_rfl) (fun j82 h => ?_) ?_
    ·refine sem_drawN [(17, [1000000])] [] [] [(2, [1000000]), (3, [1000000]), (4, [1000000]), (5, [1000000])] [] 18 (by kernel_rfl) (by kernel_rfl) (by kernel_rfl) ?_
     refine evd_run 10 (by kernel_rfl) ?_
     obtain ⟨x91, hx91, h⟩ := bindS h
     refine evd_val (by kernel_rfl) (st_idxO (c := c_Point) (l := s34.2.2) (i := (iadd a j82)) (kd := .i64) (kk := (.top 1000000)) (e := 36) (sz := 4) (by kernel_rfl) (by kernel_rfl) hx91 rfl) (by kernel_rfl) (by kernel_rfl) ?_
     refine evd_val (by kernel_rfl) (st_ldO (c := c_Point) (l := s34.2.2) (i := (Int.toNat (iadd a j82))) (v := (.agg [(vI x91.X.A), (vI x91.X.B), (vI x91.Y.A), (vI x91.Y.B)])) (agg := true) (sz := 4) (kk := (.top 1000000)) (e := 36) (off := 0) (J := []) (by kernel_rfl) (by kernel_rfl) (by kernel_rfl) ((idxS hx91).2) (by kernel_rfl)) (by kernel_rfl) (by kernel_rfl) ?_
     refine evd_run 2 (by kernel_rfl) ?_
     obtain ⟨x92, hx92, h⟩ := bindS h
     refine evd_val (by kernel_rfl) (st_idxO (c := c_Point) (l := s34.2.2) (i := s34.1) (kd := .i64) (kk := (.top 1000000)) (e := 36) (sz := 4) (by kernel_rfl) (by kernel_rfl) hx92 rfl) (by kernel_rfl) (by kernel_rfl) ?_
     refine evd_val (by kernel_rfl) (st_ldO (c := c_Point) (l := s34.2.2) (i := (Int.toNat s34.1)) (v := (.agg [(vI x92.X.A), (vI x92.X.B), (vI x92.Y.A), (vI x92.Y.B)])) (agg := true) (sz := 4) (kk := (.top 1000000)) (e := 36) (off := 0) (J := []) (by kernel_rfl) (by kernel_rfl) (by kernel_rfl) ((idxS hx92).2) (by kernel_rfl)) (by kernel_rfl) (by kernel_rfl) ?_
     obtain ⟨x93, hx93, h⟩ := bindS h
     refine evd_val (by kernel_rfl) (st_idxO (c := c_Point) (l := s34.2.2) (i := s34.1) (kd := .i64) (kk := (.top 1000000)) (e := 36) (sz := 4) (by kernel_rfl) (by kernel_rfl) hx93 rfl) (by kernel_rfl) (by kernel_rfl) ?_
     refine evd_set (by kernel_rfl) (st_stO (c := c_Point) (l := s34.2.2) (i := (Int.toNat s34.1)) (x := x93) (x' := x91) (v := (.agg [(vI x91.X.A), (vI x91.X.B), (vI x91.Y.A), (vI x91.Y.B)])) (agg := true) (sz := 4) (kk := (.top 1000000)) (e := 36) (off := 0) (J := []) (o := .row 36 [] (List.map c_Point (List.set s34.2.2 (Int.toNat s34.1) x91))) (by kernel_rfl) (by kernel_rfl) (by kernel_rfl) ((idxS hx93).2) (by kernel_rfl) (by kernel_rfl) (by kernel_rfl)) (by kernel_rfl) (by kernel_rfl) (by kernel_rfl) ?_
     refine evd_end (by kernel_rfl) ?_
     obtain ⟨x94, hx94, h⟩ := bindS h
     refine evo_op (st_idxO (c := c_Point) (l := (List.set s34.2.2 (Int.toNat s34.1) x91)) (i := (iadd a j82)) (kd := .i64) (kk := (.top 1000000)) (e := 36) (sz := 4) (by kernel_rfl) (by kernel_rfl) hx94 rfl) ?_
     refine evo_op (st_stO (c := c_Point) (l := (List.set s34.2.2 (Int.toNat s34.1) x91)) (i := (Int.toNat (iadd a j82))) (x := x94) (x' := x92) (v := (.agg [(vI x92.X.A), (vI x92.X.B), (vI x92.Y.A), (vI x92.Y.B)])) (agg := true) (sz := 4) (kk := (.top 1000000)) (e := 36) (off := 0) (J := []) (o := .row 36 [] (List.map c_Point (List.set (List.set s34.2.2 (Int.toNat s34.1) x91) (Int.toNat (iadd a j82)) x92))) (by kernel_rfl) (by kernel_rfl) (by kernel_rfl) ((idxS hx94).2) (by kernel_rfl) (by kernel_rfl) (by kernel_rfl)) ?_
     refine evo_endS (by kernel_rfl) (fun τ hτ => ?_)
     refine bl_normal ?_
     refine th_normalS hτ ⟨[(0, (.row (.top 1000000) 36)), (1, (vI a)), (8, (vI (isub b a))), (9, (.ptr 500000 0)), (10, (vK .u64 r2)), (11, (vI s34.1))], [(500000, .box [(vK .u64 (kxor .u64 (kxor .u64 (kxor .u64 s34.2.1 (IntKind.wrap .u64 (s34.2.1 * 2 ^ (min (Int.toNat 13) 64)))) (Int.fdiv (kxor .u64 s34.2.1 (IntKind.wrap .u64 (s34.2.1 * 2 ^ (min (Int.toNat 13) 64)))) (2 ^ (min (Int.toNat 7) 64)))) (IntKind.wrap .u64 ((kxor .u64 (kxor .u64 s34.2.1 (IntKind.wrap .u64 (s34.2.1 * 2 ^ (min (Int.toNat 13) 64)))) (Int.fdiv (kxor .u64 s34.2.1 (IntKind.wrap .u64 (s34.2.1 * 2 ^ (min (Int.toNat 13) 64)))) (2 ^ (min (Int.toNat 7) 64)))) * 2 ^ (min (Int.toNat 17) 64)))))]), (1000000, .row 36 [] (List.map c_Point (List.set (List.set s34.2.2 (Int.toNat s34.1) x91) (Int.toNat (iadd a j82)) x92)))]⟩ (here (by kernel_rfl)) ?_
     refine sem_region (by kernel_rfl) ?_
     refine z6 3 (by kernel_rfl) (fun τ hτ => ?_)
     obtain rfl := Option.some.inj h
     exact lk_nextS hτ (here (by kernel_rfl))
    refine z3 3 ⟨[(0, (.row (.top 1000000) 36)), (1, (vI a)), (8, (vI (isub b a))), (9, (.ptr 500000 0)), (10, (vK .u64 r2)), (11, (vI s34.1)), (12, (vI (IntKind.wrap .i64 (kand .u64 r81 (IntKind.wrap .u64 (r2 - 1)))))), (45, (vB (decide ((IntKind.wrap .i64 (kand .u64 r81 (IntKind.wrap .u64 (r2 - 1)))) ≥ (isub b a)))))], [(500000, .box [(vK .u64 (kxor .u64 (kxor .u64 (kxor .u64 s34.2.1 (IntKind.wrap .u64 (s34.2.1 * 2 ^ (min (Int.toNat 13) 64)))) (Int.fdiv (kxor .u64 s34.2.1 (IntKind.wrap .u64 (s34.2.1 * 2 ^ (min (Int.toNat 13) 64)))) (2 ^ (min (Int.toNat 7) 64)))) (IntKind.wrap .u64 ((kxor .u64 (kxor .u64 s34.2.1 (IntKind.wrap .u64 (s34.2.1 * 2 ^ (min (Int.toNat 13) 64)))) (Int.fdiv (kxor .u64 s34.2.1 (IntKind.wrap .u64 (s34.2.1 * 2 ^ (min (Int.toNat 13) 64)))) (2 ^ (min (Int.toNat 7) 64)))) * 2 ^ (min (Int.toNat 17) 64)))))]), (1000000, .row 36 [] (List.map c_Point s34.2.2))]⟩ (by kernel_rfl) ?_
    refine sem_cond (decide ((IntKind.wrap .i64 (kand .u64 r81 (IntKind.wrap .u64 (r2 - 1)))) ≥ (isub b a))) (by kernel_rfl) (by kernel_rfl) (fun hb => ?_) (fun hb => ?_)
    ·replace h := iteT hb h
     refine sem_region (by kernel_rfl) ?_
     refine z6 4 (by kernel_rfl) (fun τ hτ => ?_)
     exact jk_normal (isub (IntKind.wrap .i64 (kand .u64 r81 (IntKind.wrap .u64 (r2 - 1)))) (isub b a)) h hτ (here (by kernel_rfl))
    ·replace h := iteF hb h
     refine sem_skipS (by kernel_rfl) (fun τ hτ => ?_)
     exact jk_normal (IntKind.wrap .i64 (kand .u64 r81 (IntKind.wrap .u64 (r2 - 1)))) h hτ (here (by kernel_rfl))
   ·replace h := iteF hb h
    refine sem_exitS 0 (by kernel_rfl) rfl (fun τ hτ => ?_)
    refine th_exit ?_
    obtain rfl := Option.some.inj h
    exact lk_outS hτ rfl (here (by kernel_rfl))
  ·intro x
   rfl
  ·intro τ hτ
   refine bl_hit (by kernel_rfl) ?_
   obtain rfl := Option.some.inj h
   exact rk_normal hτ [] (here (by kernel_rfl)) (by kernel_rfl)
 ·replace h := iteF hb h
  refine sem_skipS (by kernel_rfl) (fun τ hτ => ?_)
  obtain rfl := Option.some.inj h
  exact rk_normal hτ [] (here (by kernel_rfl)) (by kernel_rfl)
theorem W.slices_order2CmpFunc_api_Point__geom_comparePoints_ok {data : (List Point)} {a : Int} {b : Int} {h0_0 : Int} {r : Int × Int × Int} (h : slices_order2CmpFunc_api_Point__geom_comparePoints data a b h0_0 = some r) : PC G.P 152 [(.sl (List.map c_Point data)), (vI a), (vI b), (.ptr 1000000 0), (.fn 106 [])] [(1000000, .box [(vI h0_0)])] (.tup [(vI r.1), (vI r.2.1)]) [(1000000, .box [(vI r.2.2)])] := by
 refine pc_of G (fn := Try.f152) Try.func152 (by kernel_rfl) (by kernel_rfl) (by kernel_rfl) (by kernel_rfl) (by kernel_rfl) ?_
 refine sem_set ⟨[(0, (.sl (List.map c_Point data))), (1, (vI a)), (2, (vI b)), (3, (.ptr 1000000 0)), (4, (.fn 106 []))], [(1000000, .box [(vI h0_0)])]⟩ (by kernel_rfl) ?_
 refine z3 2 ⟨[(0, (.sl (List.map c_Point data))), (1, (vI a)), (2, (vI b)), (3, (.ptr 1000000 0)), (4, (.fn 106 []))], [(1000000, .box [(vI h0_0)])]⟩ (by kernel_rfl) ?_
 refine sem_seq (by kernel_rfl) ?_
 refine sem_seq (by kernel_rfl) ?_
 refine sem_drawN [] [] [] [] [] 9 (by kernel_rfl) (by kernel_rfl) (by kernel_rfl) ?_
 refine evd_run 3 (by kernel_rfl) ?_
 obtain ⟨x16, hx16, h⟩ := bindS h
 refine evd_val (by kernel_rfl) (st_idx (c := c_Point) (l := data) (i := b) (kd := .i64) (sz := 4) (by kernel_rfl) hx16 rfl) (by kernel_rfl) (by kernel_rfl) ?_
 refine evd_run 3 (by kernel_rfl) ?_
 obtain ⟨x17, hx17, h⟩ := bindS h
 refine evd_val (by kernel_rfl) (st_idx (c := c_Point) (l := data) (i := a) (kd := .i64) (sz := 4) (by kernel_rfl) hx17 rfl) (by kernel_rfl) (by kernel_rfl) ?_
 refine evd_run 1 (by kernel_rfl) ?_
 refine evd_end (by kernel_rfl) ?_
 obtain ⟨r18, hr18, h⟩ := bindS h
 refine evo_callP [] (by kernel_rfl) (W.geom_comparePoints_ok hr18) (by kernel_rfl) (.inl rfl) (by kernel_rfl) ?_
 refine evo_run 1 (by kernel_rfl) ?_
 refine evo_endS (by kernel_rfl) (fun τ hτ => ?_)
 refine th_normalS hτ ⟨[(1, (vI a)), (2, (vI b)), (3, (.ptr 1000000 0)), (22, (vB (decide (r18 < 0))))], [(1000000, .box [(vI h0_0)])]⟩ (here (by kernel_rfl)) ?_
 refine sem_cond (decide (r18 < 0)) (by kernel_rfl) (by kernel_rfl) (fun hb => ?_) (fun hb => ?_)
 ·replace h := iteT hb h
  refine z3 6 ⟨[(1, (vI a)), (2, (vI b))], [(1000000, .box [(vI (iadd h0_0 1))])]⟩ (by kernel_rfl) ?_
  refine z8 4 ⟨[(10, (vI b)), (11, (vI a))], [(1000000, .box [(vI (iadd h0_0 1))])]⟩ (by kernel_rfl) (fun τ hτ => ?_)
  refine th_ret ?_
  obtain rfl := Option.some.inj h
  exact rk_ret hτ [(10, (vI b)), (11, (vI a))] (here (by kernel_rfl)) (by kernel_rfl)
 ·replace h := iteF hb h
  refine z4 ⟨[(1, (vI a)), (2, (vI b))], [(1000000, .box [(vI h0_0)])]⟩ (by kernel_rfl) ?_
  refine z8 4 ⟨[(10, (vI a)), (11, (vI b))], [(1000000, .box [(vI h0_0)])]⟩ (by kernel_rfl) (fun τ hτ => ?_)
  obtain rfl := Option.some.inj h
  exact rk_ret hτ [(10, (vI a)), (11, (vI b))] (here (by kernel_rfl)) (by kernel_rfl)
theorem W.slices_medianCmpFunc_api_Point__geom_comparePoints_ok {data : (List Point)} {a : Int} {b : Int} {c : Int} {h0_0 : Int} {r : Int × Int} (h : slices_medianCmpFunc_api_Point__geom_comparePoints data a b c h0_0 = some r) : PC G.P 148 [(.sl (List.map c_Point data)), (vI a), (vI b), (vI c), (.ptr 1000000 0), (.fn 106 [])] [(1000000, .box [(vI h0_0)])] (vI r.1) [(1000000, .box [(vI r.2)])] := by
 refine pc_of G (fn := Try.f148) Try.func148 (by kernel_rfl) (by kernel_rfl) (by kernel_rfl) (by kernel_rfl) (by kernel_rfl) ?_
 refine sem_set ⟨[(0, (.sl (List.map c_Point data))), (1, (vI a)), (2, (vI b)), (3, (vI c)), (4, (.ptr 1000000 0)), (5, (.fn 106 []))], [(1000000, .box [(vI h0_0)])]⟩ (by kernel_rfl) ?_
 refine z3 1 ⟨[(0, (.sl (List.map c_Point data))), (1, (vI a)), (2, (vI b)), (3, (vI c)), (4, (.ptr 1000000 0)), (5, (.fn 106 []))], [(1000000, .box [(vI h0_0)])]⟩ (by kernel_rfl) ?_
 refine z7 (by kernel_rfl) ?_
 refine evs_run 5 (by kernel_rfl) ?_
 obtain ⟨r2, hr2, h⟩ := bindS h
 refine evs_callS [(1000000, 1000000)] [] [] (by kernel_rfl) (W.slices_order2CmpFunc_api_Point__geom_comparePoints_ok hr2) (by kernel_rfl) (by kernel_rfl) (.inl rfl) ?_
 refine z1 5 ⟨[(0, (.sl (List.map c_Point data))), (1, (vI r2.1)), (2, (vI r2.2.1)), (3, (vI c)), (4, (.ptr 1000000 0)), (5, (.fn 106 []))], [(1000000, .box [(vI r2.2.2)])]⟩ (by kernel_rfl) ?_
 refine z7 (by kernel_rfl) ?_
 refine evs_run 5 (by kernel_rfl) ?_
 obtain ⟨r4, hr4, h⟩ := bindS h
 refine evs_callS [(1000000, 1000000)] [] [] (by kernel_rfl) (W.slices_order2CmpFunc_api_Point__geom_comparePoints_ok hr4) (by kernel_rfl) (by kernel_rfl) (.inl rfl) ?_
 refine z1 5 ⟨[(0, (.sl (List.map c_Point data))), (1, (vI r2.1)), (2, (vI r4.1)), (4, (.ptr 1000000 0)), (5, (.fn 106 []))], [(1000000, .box [(vI r4.2.2)])]⟩ (by kernel_rfl) ?_
 refine z7 (by kernel_rfl) ?_
 refine evs_run 5 (by kernel_rfl) ?_
 obtain ⟨r6, hr6, h⟩ := bindS h
 refine evs_callS [(1000000, 1000000)] [] [] (by kernel_rfl) (W.slices_order2CmpFunc_api_Point__geom_comparePoints_ok hr6) (by kernel_rfl) (by kernel_rfl) (.inl rfl) ?_
 refine z1 5 ⟨[(2, (vI r6.2.1))], [(1000000, .box [(vI r6.2.2)])]⟩ (by kernel_rfl) ?_
 refine z8 2 ⟨[(12, (vI r6.2.1))], [(1000000, .box [(vI r6.2.2)])]⟩ (by kernel_rfl) (fun τ hτ => ?_)
 obtain rfl := Option.some.inj h
 exact rk_ret hτ [(12, (vI r6.2.1))] (here (by kernel_rfl)) (by kernel_rfl)
theorem W.slices_medianAdjacentCmpFunc_api_Point__geom_comparePoints_ok {data : (List Point)} {a : Int} {h0_0 : Int} {r : Int × Int} (h : slices_medianAdjacentCmpFunc_api_Point__geom_comparePoints data a h0_0 = some r) : PC G.P 147 [(.sl (List.map c_Point data)), (vI a), (.ptr 1000000 0), (.fn 106 [])] [(1000000, .box [(vI h0_0)])] (vI r.1) [(1000000, .box [(vI r.2)])] := by
 refine pc_of G (fn := Try.f147) Try.func147 (by kernel_rfl) (by kernel_rfl) (by kernel_rfl) (by kernel_rfl) (by kernel_rfl) ?_
 refine sem_set ⟨[(0, (.sl (List.map c_Point data))), (1, (vI a)), (2, (.ptr 1000000 0)), (3, (.fn 106 []))], [(1000000, .box [(vI h0_0)])]⟩ (by kernel_rfl) ?_
 refine z3 1 ⟨[(0, (.sl (List.map c_Point data))), (1, (vI a)), (2, (.ptr 1000000 0)), (3, (.fn 106 []))], [(1000000, .box [(vI h0_0)])]⟩ (by kernel_rfl) ?_
 refine z7 (by kernel_rfl) ?_
 refine evs_run 8 (by kernel_rfl) ?_
 obtain ⟨r2, hr2, h⟩ := bindS h
 refine evs_callS [(1000000, 1000000)] [] [] (by kernel_rfl) (W.slices_medianCmpFunc_api_Point__geom_comparePoints_ok hr2) (by kernel_rfl) (by kernel_rfl) (.inl rfl) ?_
 refine z1 1 ⟨[(8, (vI r2.1))], [(1000000, .box [(vI r2.2)])]⟩ (by kernel_rfl) ?_
 refine sem_retS (by kernel_rfl) (fun τ hτ => ?_)
 obtain rfl := Option.some.inj h
 exact rk_ret hτ [(8, (vI r2.1))] (here (by kernel_rfl)) (by kernel_rfl)
theorem W.slices_choosePivotCmpFunc_api_Point__geom_comparePoints_ok {data : (List Point)} {a : Int} {b : Int} {r : Int × Int} (h : slices_choosePivotCmpFunc_api_Point__geom_comparePoints data a b = some r) : PC G.P 129 [(.sl (List.map c_Point data)), (vI a), (vI b), (.fn 106 [])] [] (.tup [(vI r.1), (vI r.2)]) [] := by
 refine pc_of G (fn := Try.f129) Try.func129 (by kernel_rfl) (by kernel_rfl) (by kernel_rfl) (by kernel_rfl) (by kernel_rfl) ?_
 refine sem_set ⟨[(0, (.sl (List.map c_Point data))), (1, (vI a)), (2, (vI b)), (3, (.fn 106 []))], []⟩ (by kernel_rfl) ?_
 refine z3 2 ⟨[(0, (.sl (List.map c_Point data))), (1, (vI a)), (2, (vI b)), (3, (.fn 106 []))], []⟩ (by kernel_rfl) ?_
 refine z3 4 ⟨[(0, (.sl (List.map c_Point data))), (1, (vI a)), (3, (.fn 106 [])), (10, (vI (isub b a)))], []⟩ (by kernel_rfl) ?_
 refine z3 1 ⟨[(0, (.sl (List.map c_Point data))), (1, (vI a)), (3, (.fn 106 [])), (10, (vI (isub b a))), (11, (.ptr 11 0))], [(11, .box [(vI 0)])]⟩ (by kernel_rfl) ?_
 refine z3 6 ⟨[(0, (.sl (List.map c_Point data))), (1, (vI a)), (3, (.fn 106 [])), (10, (vI (isub b a))), (11, (.ptr 11 0)), (12, (vI (iadd a (imul (iquo (isub b a) 4) 1))))], [(11, .box [(vI 0)])]⟩ (by kernel_rfl) ?_
 refine z3 6 ⟨[(0, (.sl (List.map c_Point data))), (1, (vI a)), (3, (.fn 106 [])), (10, (vI (isub b a))), (11, (.ptr 11 0)), (12, (vI (iadd a (imul (iquo (isub b a) 4) 1)))), (13, (vI (iadd a (imul (iquo (isub b a) 4) 2))))], [(11, .box [(vI 0)])]⟩ (by kernel_rfl) ?_
 refine z3 6 ⟨[(0, (.sl (List.map c_Point data))), (3, (.fn 106 [])), (10, (vI (isub b a))), (11, (.ptr 11 0)), (12, (vI (iadd a (imul (iquo (isub b a) 4) 1)))), (13, (vI (iadd a (imul (iquo (isub b a) 4) 2)))), (14, (vI (iadd a (imul (iquo (isub b a) 4) 3))))], [(11, .box [(vI 0)])]⟩ (by kernel_rfl) ?_
 refine sem_seqJ (fun (j16 : Int × Int) => ⟨[(11, (.ptr 500000 0)), (13, (vI j16.1))], [(500000, .box [(vI j16.2)])]⟩) (slices_choosePivotCmpFunc_api_Point__geom_comparePoints_k1) r (by kernel_rfl) (fun j16 h => ?_) ?_
 ·refine z3 1 ⟨[(13, (vI j16.1)), (55, (vI j16.2))], []⟩ (by kernel_rfl) ?_
  refine sem_block (by kernel_rfl) ?_
  refine z3 2 ⟨[(13, (vI j16.1)), (55, (vI j16.2)), (57, (vB (j16.2 == 0)))], []⟩ (by kernel_rfl) ?_
  refine sem_cond (j16.2 == 0) (by kernel_rfl) (by kernel_rfl) (fun hb => ?_) (fun hb => ?_)
  ·replace h := iteT hb h
   refine z8 3 ⟨[(8, (vI j16.1)), (9, (vI 1))], []⟩ (by kernel_rfl) (fun τ hτ => ?_)
   refine bl_ret ?_
   obtain rfl := Option.some.inj h
   exact rk_ret hτ [(8, (vI j16.1)), (9, (vI 1))] (here (by kernel_rfl)) (by kernel_rfl)
  ·replace h := iteF hb h
   refine z3 2 ⟨[(13, (vI j16.1)), (60, (vB (j16.2 == 12)))], []⟩ (by kernel_rfl) ?_
   refine sem_cond (j16.2 == 12) (by kernel_rfl) (by kernel_rfl) (fun hb => ?_) (fun hb => ?_)
   ·replace h := iteT hb h
    refine z8 3 ⟨[(8, (vI j16.1)), (9, (vI 2))], []⟩ (by kernel_rfl) (fun τ hτ => ?_)
    refine bl_ret ?_
    obtain rfl := Option.some.inj h
    exact rk_ret hτ [(8, (vI j16.1)), (9, (vI 2))] (here (by kernel_rfl)) (by kernel_rfl)
   ·replace h := iteF hb h
    refine z8 3 ⟨[(8, (vI j16.1)), (9, (vI 0))], []⟩ (by kernel_rfl) (fun τ hτ => ?_)
    refine bl_ret ?_
    obtain rfl := Option.some.inj h
    exact rk_ret hτ [(8, (vI j16.1)), (9, (vI 0))] (here (by kernel_rfl)) (by kernel_rfl)
 refine z3 2 ⟨[(0, (.sl (List.map c_Point data))), (3, (.fn 106 [])), (10, (vI (isub b a))), (11, (.ptr 11 0)), (12, (vI (iadd a (imul (iquo (isub b a) 4) 1)))), (13, (vI (iadd a (imul (iquo (isub b a) 4) 2)))), (14, (vI (iadd a (imul (iquo (isub b a) 4) 3)))), (34, (vB (decide ((isub b a) ≥ 8))))], [(11, .box [(vI 0)])]⟩ (by kernel_rfl) ?_
 refine sem_cond (decide ((isub b a) ≥ 8)) (by kernel_rfl) (by kernel_rfl) (fun hb => ?_) (fun hb => ?_)
 ·replace h := iteT hb h
  refine sem_seqJ (fun (j23 : Int × Int × Int × Int) => ⟨[(0, (.sl (List.map c_Point data))), (3, (.fn 106 [])), (11, (.ptr 500000 0)), (12, (vI j23.1)), (13, (vI j23.2.1)), (14, (vI j23.2.2.1))], [(500000, .box [(vI j23.2.2.2)])]⟩) (slices_choosePivotCmpFunc_api_Point__geom_comparePoints_k2 data) r (by kernel_rfl) (fun j23 h => ?_) ?_
  ·refine sem_region (by kernel_rfl) ?_
   refine evs_run 5 (by kernel_rfl) ?_
   obtain ⟨r25, hr25, h⟩ := bindS h
   refine evs_callS [(1000000, 500000)] [] [] (by kernel_rfl) (W.slices_medianCmpFunc_api_Point__geom_comparePoints_ok hr25) (by kernel_rfl) (by kernel_rfl) (.inl rfl) ?_
   refine z6 1 (by kernel_rfl) (fun τ hτ => ?_)
   exact jk_normal (r25.1, r25.2) h hτ (here (by kernel_rfl))
  refine z3 2 ⟨[(0, (.sl (List.map c_Point data))), (3, (.fn 106 [])), (11, (.ptr 11 0)), (12, (vI (iadd a (imul (iquo (isub b a) 4) 1)))), (13, (vI (iadd a (imul (iquo (isub b a) 4) 2)))), (14, (vI (iadd a (imul (iquo (isub b a) 4) 3)))), (36, (vB (decide ((isub b a) ≥ 50))))], [(11, .box [(vI 0)])]⟩ (by kernel_rfl) ?_
  refine sem_cond (decide ((isub b a) ≥ 50)) (by kernel_rfl) (by kernel_rfl) (fun hb => ?_) (fun hb => ?_)
  ·replace h := iteT hb h
   refine z7 (by kernel_rfl) ?_
   refine evs_run 3 (by kernel_rfl) ?_
   obtain ⟨r27, hr27, h⟩ := bindS h
   refine evs_callS [(1000000, 11)] [] [] (by kernel_rfl) (W.slices_medianAdjacentCmpFunc_api_Point__geom_comparePoints_ok hr27) (by kernel_rfl) (by kernel_rfl) (.inl rfl) ?_
   refine z1 1 ⟨[(0, (.sl (List.map c_Point data))), (3, (.fn 106 [])), (11, (.ptr 11 0)), (12, (vI r27.1)), (13, (vI (iadd a (imul (iquo (isub b a) 4) 2)))), (14, (vI (iadd a (imul (iquo (isub b a) 4) 3))))], [(11, .box [(vI r27.2)])]⟩ (by kernel_rfl) ?_
   refine z7 (by kernel_rfl) ?_
   refine evs_run 3 (by kernel_rfl) ?_
   obtain ⟨r29, hr29, h⟩ := bindS h
   refine evs_callS [(1000000, 11)] [] [] (by kernel_rfl) (W.slices_medianAdjacentCmpFunc_api_Point__geom_comparePoints_ok hr29) (by kernel_rfl) (by kernel_rfl) (.inl rfl) ?_
   refine z1 1 ⟨[(0, (.sl (List.map c_Point data))), (3, (.fn 106 [])), (11, (.ptr 11 0)), (12, (vI r27.1)), (13, (vI r29.1)), (14, (vI (iadd a (imul (iquo (isub b a) 4) 3))))], [(11, .box [(vI r29.2)])]⟩ (by kernel_rfl) ?_
   refine sem_region (by kernel_rfl) ?_
   refine evs_run 3 (by kernel_rfl) ?_
   obtain ⟨r31, hr31, h⟩ := bindS h
   refine evs_callS [(1000000, 11)] [] [] (by kernel_rfl) (W.slices_medianAdjacentCmpFunc_api_Point__geom_comparePoints_ok hr31) (by kernel_rfl) (by kernel_rfl) (.inl rfl) ?_
   refine z6 1 (by kernel_rfl) (fun τ hτ => ?_)
   exact jk_normal (r27.1, r29.1, r31.1, r31.2) h hτ (subR_prep [] [(11, 500000)] (by kernel_rfl) rfl rfl (by kernel_rfl))
  ·replace h := iteF hb h
   refine sem_skipS (by kernel_rfl) (fun τ hτ => ?_)
   exact jk_normal ((iadd a (imul (iquo (isub b a) 4) 1)), (iadd a (imul (iquo (isub b a) 4) 2)), (iadd a (imul (iquo (isub b a) 4) 3)), 0) h hτ (subR_prep [] [(11, 500000)] (by kernel_rfl) rfl rfl (by kernel_rfl))
 ·replace h := iteF hb h
  refine sem_skipS (by kernel_rfl) (fun τ hτ => ?_)
  exact jk_normal ((iadd a (imul (iquo (isub b a) 4) 2)), 0) h hτ (subR_prep [] [(11, 500000)] (by kernel_rfl) rfl rfl (by kernel_rfl))
theorem W.slices_reverseRangeCmpFunc_api_Point__geom_comparePoints_ok {a : Int} {b : Int} {h0 : (List Point)} {r : (List Point)} (h : slices_reverseRangeCmpFunc_api_Point__geom_comparePoints a b h0 = some r) : PC G.P 130 [(.row (.top 1000000) 36), (vI a), (vI b), (.fn 106 [])] [(1000000, .row 36 [] (List.map c_Point h0))] (.tup []) [(1000000, .row 36 [] (List.map c_Point r))] := by
 refine pc_of G (fn := Try.f130) Try.func130 (by kernel_rfl) (by kernel_rfl) (by kernel_rfl) (by kernel_rfl) (by kernel_rfl) ?_
 refine sem_set ⟨[(0, (.row (.top 1000000) 36)), (1, (vI a)), (2, (vI b))], [(1000000, .row 36 [] (List.map c_Point h0))]⟩ (by kernel_rfl) ?_
 refine z3 2 ⟨[(0, (.row (.top 1000000) 36)), (2, (vI b)), (8, (vI a))], [(1000000, .row 36 [] (List.map c_Point h0))]⟩ (by kernel_rfl) ?_
 refine z3 3 ⟨[(0, (.row (.top 1000000) 36)), (8, (vI a)), (9, (vI (isub b 1)))], [(1000000, .row 36 [] (List.map c_Point h0))]⟩ (by kernel_rfl) ?_
 refine sem_block (by kernel_rfl) ?_
 obtain ⟨x39, hx39, h⟩ := bindS h
 refine sem_loopS (fun (s14 : Int × Int × (List Point)) => ⟨[(0, (.row (.top 1000000) 36)), (8, (vI s14.1)), (9, (vI s14.2.1))], [(1000000, .row 36 [] (List.map c_Point s14.2.2))]⟩) (fun (x39 : (List Point)) => (.exit 0, ⟨[], [(1000000, .row 36 [] (List.map c_Point x39))]⟩)) (slices_reverseRangeCmpFunc_api_Point__geom_comparePoints_l1) (a, (isub b 1), h0) x39 (by kernel_rfl) (here (by kernel_rfl)) hx39 ?_ ?_ ?_
 ·intro s14 r h
  refine sem_seq (by kernel_rfl) ?_
  refine z3 3 ⟨[(0, (.row (.top 1000000) 36)), (8, (vI s14.1)), (9, (vI s14.2.1)), (15, (vB (decide (s14.1 < s14.2.1))))], [(1000000, .row 36 [] (List.map c_Point s14.2.2))]⟩ (by kernel_rfl) ?_
  refine sem_cond (decide (s14.1 < s14.2.1)) (by kernel_rfl) (by kernel_rfl) (fun hb => ?_) (fun hb => ?_)
  ·replace h := iteT hb h
   refine z4 ⟨[(0, (.row (.top 1000000) 36)), (8, (vI s14.1)), (9, (vI s14.2.1))], [(1000000, .row 36 [] (List.map c_Point s14.2.2))]⟩ (by kernel_rfl) ?_
   refine sem_block (by kernel_rfl) ?_
   refine sem_seq (by kernel_rfl) ?_
   refine sem_drawN [(13, [1000000])] [] [] [(2, [1000000]), (3, [1000000])] [] 14 (by kernel_rfl) (by kernel_rfl) (by kernel_rfl) ?_
   refine evd_run 6 (by kernel_rfl) ?_
   obtain ⟨x35, hx35, h⟩ := bindS h
   refine evd_val (by kernel_rfl) (st_idxO (c := c_Point) (l := s14.2.2) (i := s14.2.1) (kd := .i64) (kk := (.top 1000000)) (e := 36) (sz := 4) (by kernel_rfl) (by kernel_rfl) hx35 rfl) (by kernel_rfl) (by kernel_rfl) ?_
   refine evd_val (by kernel_rfl) (st_ldO (c := c_Point) (l := s14.2.2) (i := (Int.toNat s14.2.1)) (v := (.agg [(vI x35.X.A), (vI x35.X.B), (vI x35.Y.A), (vI x35.Y.B)])) (agg := true) (sz := 4) (kk := (.top 1000000)) (e := 36) (off := 0) (J := []) (by kernel_rfl) (by kernel_rfl) (by kernel_rfl) ((idxS hx35).2) (by kernel_rfl)) (by kernel_rfl) (by kernel_rfl) ?_
   refine evd_run 2 (by kernel_rfl) ?_
   obtain ⟨x36, hx36, h⟩ := bindS h
   refine evd_val (by kernel_rfl) (st_idxO (c := c_Point) (l := s14.2.2) (i := s14.1) (kd := .i64) (kk := (.top 1000000)) (e := 36) (sz := 4) (by kernel_rfl) (by kernel_rfl) hx36 rfl) (by kernel_rfl) (by kernel_rfl) ?_
   refine evd_val (by kernel_rfl) (st_ldO (c := c_Point) (l := s14.2.2) (i := (Int.toNat s14.1)) (v := (.agg [(vI x36.X.A), (vI x36.X.B), (vI x36.Y.A), (vI x36.Y.B)])) (agg := true) (sz := 4) (kk := (.top 1000000)) (e := 36) (off := 0) (J := []) (by kernel_rfl) (by kernel_rfl) (by kernel_rfl) ((idxS hx36).2) (by kernel_rfl)) (by kernel_rfl) (by kernel_rfl) ?_
   obtain ⟨x37, hx37, h⟩ := bindS h
   refine evd_val (by kernel_rfl) (st_idxO (c := c_Point) (l := s14.2.2) (i := s14.1) (kd := .i64) (kk := (.top 1000000)) (e := 36) (sz := 4) (by kernel_rfl) (by kernel_rfl) hx37 rfl) (by kernel_rfl) (by kernel_rfl) ?_
   refine evd_set (by kernel_rfl) (st_stO (c := c_Point) (l := s14.2.2) (i := (Int.toNat s14.1)) (x := x37) (x' := x35) (v := (.agg [(vI x35.X.A), (vI x35.X.B), (vI x35.Y.A), (vI x35.Y.B)])) (agg := true) (sz := 4) (kk := (.top 1000000)) (e := 36) (off := 0) (J := []) (o := .row 36 [] (List.map c_Point (List.set s14.2.2 (Int.toNat s14.1) x35))) (by kernel_rfl) (by kernel_rfl) (by kernel_rfl) ((idxS hx37).2) (by kernel_rfl) (by kernel_rfl) (by kernel_rfl)) (by kernel_rfl) (by kernel_rfl) (by kernel_rfl) ?_
   refine evd_end (by kernel_rfl) ?_
   obtain ⟨x38, hx38, h⟩ := bindS h
   refine evo_op (st_idxO (c := c_Point) (l := (List.set s14.2.2 (Int.toNat s14.1) x35)) (i := s14.2.1) (kd := .i64) (kk := (.top 1000000)) (e := 36) (sz := 4) (by kernel_rfl) (by kernel_rfl) hx38 rfl) ?_
   refine evo_op (st_stO (c := c_Point) (l := (List.set s14.2.2 (Int.toNat s14.1) x35)) (i := (Int.toNat s14.2.1)) (x := x38) (x' := x36) (v := (.agg [(vI x36.X.A), (vI x36.X.B), (vI x36.Y.A), (vI x36.Y.B)])) (agg := true) (sz := 4) (kk := (.top 1000000)) (e := 36) (off := 0) (J := []) (o := .row 36 [] (List.map c_Point (List.set (List.set s14.2.2 (Int.toNat s14.1) x35) (Int.toNat s14.2.1) x36))) (by kernel_rfl) (by kernel_rfl) (by kernel_rfl) ((idxS hx38).2) (by kernel_rfl) (by kernel_rfl) (by kernel_rfl)) ?_
   refine evo_endS (by kernel_rfl) (fun τ hτ => ?_)
   refine th_normalS hτ ⟨[(0, (.row (.top 1000000) 36)), (8, (vI s14.1)), (9, (vI s14.2.1))], [(1000000, .row 36 [] (List.map c_Point (List.set (List.set s14.2.2 (Int.toNat s14.1) x35) (Int.toNat s14.2.1) x36)))]⟩ (here (by kernel_rfl)) ?_
   refine z3 3 ⟨[(0, (.row (.top 1000000) 36)), (8, (vI (iadd s14.1 1))), (9, (vI s14.2.1))], [(1000000, .row 36 [] (List.map c_Point (List.set (List.set s14.2.2 (Int.toNat s14.1) x35) (Int.toNat s14.2.1) x36)))]⟩ (by kernel_rfl) ?_
   refine sem_region (by kernel_rfl) ?_
   refine z6 3 (by kernel_rfl) (fun τ hτ => ?_)
   refine bl_normal ?_
   obtain rfl := Option.some.inj h
   exact lk_nextS hτ (here (by kernel_rfl))
  ·replace h := iteF hb h
   refine sem_exitS 0 (by kernel_rfl) rfl (fun τ hτ => ?_)
   refine th_exit ?_
   obtain rfl := Option.some.inj h
   exact lk_outS hτ rfl (here (by kernel_rfl))
 ·intro x
  rfl
 ·intro τ hτ
  refine bl_hit (by kernel_rfl) ?_
  obtain rfl := Option.some.inj h
  exact rk_normal hτ [] (here (by kernel_rfl)) (by kernel_rfl)
end Go.Proofs.Ytiodkdpfkchkjaa
