/- Each Go function does what its model says; written by a program out of the translation. -/
import Derived.Test.YtiodkdpfkchkjaaBase
import Derived.Test.YtiodkdpfkchkjaaGeMP
set_option linter.unusedVariables false
set_option linter.unusedSimpArgs false
set_option linter.unusedSectionVars false
namespace Go.Proofs.Ytiodkdpfkchkjaa
open Go Go.VI Go.SM Go.Proofs
set_option maxRecDepth 100000
set_option maxHeartbeats 4000000
theorem W.geom_within_ok {n : Int} {most : Int} {r : Bool} (h : geom_within n most = some r) : PC G.P 58 [(vI n), (vI most)] [] (vB r) [] := by
 refine pc_of G (fn := Try.f58) Try.func58 (by kernel_rfl) (by kernel_rfl) (by kernel_rfl) (by kernel_rfl) (by kernel_rfl) ?_
 refine sem_set ⟨[(0, (vI n)), (1, (vI most))], []⟩ (by kernel_rfl) ?_
 refine z3 1 ⟨[(0, (vI n)), (1, (vI most))], []⟩ (by kernel_rfl) ?_
 refine sem_seq (by kernel_rfl) ?_
 obtain ⟨j1, hj1, h⟩ := bindS h
 refine sem_regionC ⟨[(4, (vB j1))], []⟩ (by kernel_rfl) ?_ (fun τ hτ => ?_)
 ·replace h := hj1
  refine evs_run 5 (by kernel_rfl) ?_
  refine evs_split (decide ((ineg most) ≤ n)) (fun b0 => ⟨[(0, (vI n)), (1, (vI most)), (9, (vB b0))], []⟩) (by kernel_rfl) (fun hb => ?_) (fun hb => ?_)
  ·replace h := iteT hb h
   refine z6 5 (by kernel_rfl) (fun τ hτ => ?_)
   obtain rfl := Option.some.inj h
   exact leafC hτ (here (by kernel_rfl))
  ·replace h := iteF hb h
   refine z6 5 (by kernel_rfl) (fun τ hτ => ?_)
   obtain rfl := Option.some.inj h
   exact leafC hτ (here (by kernel_rfl))
 refine th_normalS hτ ⟨[(4, (vB j1))], []⟩ (here (by kernel_rfl)) ?_
 refine sem_retS (by kernel_rfl) (fun τ hτ => ?_)
 obtain rfl := Option.some.inj h
 exact rk_ret hτ [(4, (vB j1))] (here (by kernel_rfl)) (by kernel_rfl)
theorem W.geom_ValidRect_1_ok {x0 : Int} {w : Int} {r : Bool} (h : geom_ValidRect_1 x0 w = some r) : PC G.P 71 [(vI x0), (vI w)] [] (vB r) [] := by
 refine pc_of G (fn := Try.f71) Try.func71 (by kernel_rfl) (by kernel_rfl) (by kernel_rfl) (by kernel_rfl) (by kernel_rfl) ?_
 refine sem_set ⟨[(0, (vI x0)), (1, (vI w))], []⟩ (by kernel_rfl) ?_
 refine z3 1 ⟨[(0, (vI x0)), (1, (vI w))], []⟩ (by kernel_rfl) ?_
 refine sem_seq (by kernel_rfl) ?_
 obtain ⟨j2, hj2, h⟩ := bindS h
 refine sem_regionC ⟨[(4, (vB j2))], []⟩ (by kernel_rfl) ?_ (fun τ hτ => ?_)
 ·replace h := hj2
  refine evs_run 1 (by kernel_rfl) ?_
  obtain ⟨r3, hr3, h⟩ := bindS h
  refine evs_callP [] (by kernel_rfl) (W.geom_within_ok hr3) (by kernel_rfl) (.inl rfl) (by kernel_rfl) ?_
  refine evs_run 1 (by kernel_rfl) ?_
  refine evs_split r3 (fun b0 => ⟨[(0, (vI x0)), (1, (vI w)), (7, (vB b0))], []⟩) (by kernel_rfl) (fun hb => ?_) (fun hb => ?_)
  ·replace h := iteT hb h
   refine evs_run 4 (by kernel_rfl) ?_
   refine evs_split (decide (w > 0)) (fun b0 => ⟨[(0, (vI x0)), (1, (vI w)), (11, (vB b0))], []⟩) (by kernel_rfl) (fun hb => ?_) (fun hb => ?_)
   ·replace h := iteT hb h
    refine evs_run 4 (by kernel_rfl) ?_
    refine evs_split (decide (w ≤ 2097152)) (fun b0 => ⟨[(0, (vI x0)), (1, (vI w)), (15, (vB b0))], []⟩) (by kernel_rfl) (fun hb => ?_) (fun hb => ?_)
    ·replace h := iteT hb h
     refine z6 6 (by kernel_rfl) (fun τ hτ => ?_)
     obtain rfl := Option.some.inj h
     exact leafC hτ (here (by kernel_rfl))
    ·replace h := iteF hb h
     refine z6 6 (by kernel_rfl) (fun τ hτ => ?_)
     obtain rfl := Option.some.inj h
     exact leafC hτ (here (by kernel_rfl))
   ·replace h := iteF hb h
    refine z6 10 (by kernel_rfl) (fun τ hτ => ?_)
    obtain rfl := Option.some.inj h
    exact leafC hτ (here (by kernel_rfl))
  ·replace h := iteF hb h
   refine z6 14 (by kernel_rfl) (fun τ hτ => ?_)
   obtain rfl := Option.some.inj h
   exact leafC hτ (here (by kernel_rfl))
 refine th_normalS hτ ⟨[(4, (vB j2))], []⟩ (here (by kernel_rfl)) ?_
 refine sem_retS (by kernel_rfl) (fun τ hτ => ?_)
 obtain rfl := Option.some.inj h
 exact rk_ret hτ [(4, (vB j2))] (here (by kernel_rfl)) (by kernel_rfl)
theorem W.geom_ValidRect_ok {r0 : Rect} {r : Bool} (h : geom_ValidRect r0 = some r) : PC G.P 26 [(.agg [(vI r0.X), (vI r0.Y), (vI r0.W), (vI r0.H)])] [] (vB r) [] := by
 refine pc_of G (fn := Try.f26) Try.func26 (by kernel_rfl) (by kernel_rfl) (by kernel_rfl) (by kernel_rfl) (by kernel_rfl) ?_
 refine sem_set ⟨[(0, (.agg [(vI r0.X), (vI r0.Y), (vI r0.W), (vI r0.H)]))], []⟩ (by kernel_rfl) ?_
 refine z3 2 ⟨[(1, (.ptr 1 0))], [(1, .box [(vI r0.X), (vI r0.Y), (vI r0.W), (vI r0.H)])]⟩ (by kernel_rfl) ?_
 refine z3 1 ⟨[(1, (.ptr 1 0)), (3, (.fn 71 []))], [(1, .box [(vI r0.X), (vI r0.Y), (vI r0.W), (vI r0.H)])]⟩ (by kernel_rfl) ?_
 refine sem_seq (by kernel_rfl) ?_
 obtain ⟨j3, hj3, h⟩ := bindS h
 refine sem_regionC ⟨[(2, (vB j3))], []⟩ (by kernel_rfl) ?_ (fun τ hτ => ?_)
 ·replace h := hj3
  refine evs_run 5 (by kernel_rfl) ?_
  obtain ⟨r4, hr4, h⟩ := bindS h
  refine evs_callP [] (by kernel_rfl) (W.geom_ValidRect_1_ok hr4) (by kernel_rfl) (.inl rfl) (by kernel_rfl) ?_
  refine evs_run 1 (by kernel_rfl) ?_
  refine evs_split r4 (fun b0 => ⟨[(1, (.ptr 1 0)), (3, (.fn 71 [])), (10, (vB b0))], [(1, .box [(vI r0.X), (vI r0.Y), (vI r0.W), (vI r0.H)])]⟩) (by kernel_rfl) (fun hb => ?_) (fun hb => ?_)
  ·replace h := iteT hb h
   refine evs_run 5 (by kernel_rfl) ?_
   obtain ⟨r5, hr5, h⟩ := bindS h
   refine evs_callP [] (by kernel_rfl) (W.geom_ValidRect_1_ok hr5) (by kernel_rfl) (.inl rfl) (by kernel_rfl) ?_
   refine z6 2 (by kernel_rfl) (fun τ hτ => ?_)
   obtain rfl := Option.some.inj h
   exact leafC hτ (here (by kernel_rfl))
  ·replace h := iteF hb h
   refine z6 8 (by kernel_rfl) (fun τ hτ => ?_)
   obtain rfl := Option.some.inj h
   exact leafC hτ (here (by kernel_rfl))
 refine th_normalS hτ ⟨[(2, (vB j3))], []⟩ (here (by kernel_rfl)) ?_
 refine sem_retS (by kernel_rfl) (fun τ hτ => ?_)
 obtain rfl := Option.some.inj h
 exact rk_ret hτ [(2, (vB j3))] (here (by kernel_rfl)) (by kernel_rfl)
theorem W.geom_Overlap_ok {a : Rect} {b : Rect} {r : Bool} (h : geom_Overlap a b = some r) : PC G.P 28 [(.agg [(vI a.X), (vI a.Y), (vI a.W), (vI a.H)]), (.agg [(vI b.X), (vI b.Y), (vI b.W), (vI b.H)])] [] (vB r) [] := by
 refine pc_of G (fn := Try.f28) Try.func28 (by kernel_rfl) (by kernel_rfl) (by kernel_rfl) (by kernel_rfl) (by kernel_rfl) ?_
 refine sem_set ⟨[(0, (.agg [(vI a.X), (vI a.Y), (vI a.W), (vI a.H)])), (1, (.agg [(vI b.X), (vI b.Y), (vI b.W), (vI b.H)]))], []⟩ (by kernel_rfl) ?_
 refine z3 3 ⟨[(2, (.ptr 2 0)), (3, (.ptr 3 0))], [(2, .box [(vI a.X), (vI a.Y), (vI a.W), (vI a.H)]), (3, .box [(vI b.X), (vI b.Y), (vI b.W), (vI b.H)])]⟩ (by kernel_rfl) ?_
 refine sem_seq (by kernel_rfl) ?_
 obtain ⟨j3, hj3, h⟩ := bindS h
 refine sem_regionC ⟨[(4, (vB j3))], []⟩ (by kernel_rfl) ?_ (fun τ hτ => ?_)
 ·replace h := hj3
  refine evs_run 1 (by kernel_rfl) ?_
  obtain ⟨r4, hr4, h⟩ := bindS h
  refine evs_callP [] (by kernel_rfl) (W.geom_ValidRect_ok hr4) (by kernel_rfl) (.inl rfl) (by kernel_rfl) ?_
  refine evs_run 1 (by kernel_rfl) ?_
  refine evs_split r4 (fun b0 => ⟨[(2, (.ptr 2 0)), (3, (.ptr 3 0)), (7, (vB b0))], [(2, .box [(vI a.X), (vI a.Y), (vI a.W), (vI a.H)]), (3, .box [(vI b.X), (vI b.Y), (vI b.W), (vI b.H)])]⟩) (by kernel_rfl) (fun hb => ?_) (fun hb => ?_)
  ·replace h := iteT hb h
   refine evs_run 1 (by kernel_rfl) ?_
   obtain ⟨r5, hr5, h⟩ := bindS h
   refine evs_callP [] (by kernel_rfl) (W.geom_ValidRect_ok hr5) (by kernel_rfl) (.inl rfl) (by kernel_rfl) ?_
   refine evs_run 2 (by kernel_rfl) ?_
   refine evs_split r5 (fun b0 => ⟨[(2, (.ptr 2 0)), (3, (.ptr 3 0)), (11, (vB b0))], [(2, .box [(vI a.X), (vI a.Y), (vI a.W), (vI a.H)]), (3, .box [(vI b.X), (vI b.Y), (vI b.W), (vI b.H)])]⟩) (by kernel_rfl) (fun hb => ?_) (fun hb => ?_)
   ·replace h := iteT hb h
    refine evs_run 10 (by kernel_rfl) ?_
    refine evs_split (decide (a.X < (iadd b.X b.W))) (fun b0 => ⟨[(2, (.ptr 2 0)), (3, (.ptr 3 0)), (21, (vB b0))], [(2, .box [(vI a.X), (vI a.Y), (vI a.W), (vI a.H)]), (3, .box [(vI b.X), (vI b.Y), (vI b.W), (vI b.H)])]⟩) (by kernel_rfl) (fun hb => ?_) (fun hb => ?_)
    ·replace h := iteT hb h
     refine evs_run 10 (by kernel_rfl) ?_
     refine evs_split (decide (b.X < (iadd a.X a.W))) (fun b0 => ⟨[(2, (.ptr 2 0)), (3, (.ptr 3 0)), (31, (vB b0))], [(2, .box [(vI a.X), (vI a.Y), (vI a.W), (vI a.H)]), (3, .box [(vI b.X), (vI b.Y), (vI b.W), (vI b.H)])]⟩) (by kernel_rfl) (fun hb => ?_) (fun hb => ?_)
     ·replace h := iteT hb h
      refine evs_run 10 (by kernel_rfl) ?_
      refine evs_split (decide (a.Y < (iadd b.Y b.H))) (fun b0 => ⟨[(2, (.ptr 2 0)), (3, (.ptr 3 0)), (41, (vB b0))], [(2, .box [(vI a.X), (vI a.Y), (vI a.W), (vI a.H)]), (3, .box [(vI b.X), (vI b.Y), (vI b.W), (vI b.H)])]⟩) (by kernel_rfl) (fun hb => ?_) (fun hb => ?_)
      ·replace h := iteT hb h
       refine z6 10 (by kernel_rfl) (fun τ hτ => ?_)
       obtain rfl := Option.some.inj h
       exact leafC hτ (here (by kernel_rfl))
      ·replace h := iteF hb h
       refine z6 10 (by kernel_rfl) (fun τ hτ => ?_)
       obtain rfl := Option.some.inj h
       exact leafC hτ (here (by kernel_rfl))
     ·replace h := iteF hb h
      refine z6 20 (by kernel_rfl) (fun τ hτ => ?_)
      obtain rfl := Option.some.inj h
      exact leafC hτ (here (by kernel_rfl))
    ·replace h := iteF hb h
     refine z6 30 (by kernel_rfl) (fun τ hτ => ?_)
     obtain rfl := Option.some.inj h
     exact leafC hτ (here (by kernel_rfl))
   ·replace h := iteF hb h
    refine z6 40 (by kernel_rfl) (fun τ hτ => ?_)
    obtain rfl := Option.some.inj h
    exact leafC hτ (here (by kernel_rfl))
  ·replace h := iteF hb h
   refine z6 44 (by kernel_rfl) (fun τ hτ => ?_)
   obtain rfl := Option.some.inj h
   exact leafC hτ (here (by kernel_rfl))
 refine th_normalS hτ ⟨[(4, (vB j3))], []⟩ (here (by kernel_rfl)) ?_
 refine sem_retS (by kernel_rfl) (fun τ hτ => ?_)
 obtain rfl := Option.some.inj h
 exact rk_ret hτ [(4, (vB j3))] (here (by kernel_rfl)) (by kernel_rfl)
theorem W.bits_Len64_ok {x0 : Int} {r : Int} (h : bits_Len64 x0 = some r) : PC G.P 135 [(vK .u64 x0)] [] (vI r) [] := by
 refine pc_of G (fn := Try.f135) Try.func135 (by kernel_rfl) (by kernel_rfl) (by kernel_rfl) (by kernel_rfl) (by kernel_rfl) ?_
 refine sem_set ⟨[(0, (vK .u64 x0))], []⟩ (by kernel_rfl) ?_
 refine z3 1 ⟨[(0, (vK .u64 x0)), (2, (vI 0))], []⟩ (by kernel_rfl) ?_
 refine sem_seqJ (fun (j1 : Int × Int) => ⟨[(0, (vK .u64 j1.1)), (2, (vI j1.2))], []⟩) (bits_Len64_k3) r (by kernel_rfl) (fun j1 h => ?_) ?_
 ·refine sem_seqJ (fun (j2 : Int × Int) => ⟨[(0, (vK .u64 j2.1)), (2, (vI j2.2))], []⟩) (bits_Len64_k2) r (by kernel_rfl) (fun j2 h => ?_) ?_
  ·refine sem_seqJ (fun (j3 : Int × Int) => ⟨[(0, (vK .u64 j3.1)), (2, (vI j3.2))], []⟩) (bits_Len64_k1) r (by kernel_rfl) (fun j3 h => ?_) ?_
   ·refine z7 (by kernel_rfl) ?_
    refine evs_run 3 (by kernel_rfl) ?_
    obtain ⟨x5, hx5, h⟩ := bindS h
    refine evs_at (at_sidx (s := (ByteArray.mk #[0, 1, 2, 2, 3, 3, 3, 3, 4, 4, 4, 4, 4, 4, 4, 4, 5, 5, 5, 5, 5, 5, 5, 5, 5, 5, 5, 5, 5, 5, 5, 5, 6, 6, 6, 6, 6, 6, 6, 6, 6, 6, 6, 6, 6, 6, 6, 6, 6, 6, 6, 6, 6, 6, 6, 6, 6, 6, 6, 6, 6, 6, 6, 6, 7, 7, 7, 7, 7, 7, 7, 7, 7, 7, 7, 7, 7, 7, 7, 7, 7, 7, 7, 7, 7, 7, 7, 7, 7, 7, 7, 7, 7, 7, 7, 7, 7, 7, 7, 7, 7, 7, 7, 7, 7, 7, 7, 7, 7, 7, 7, 7, 7, 7, 7, 7, 7, 7, 7, 7, 7, 7, 7, 7, 7, 7, 7, 7, 8, 8, 8, 8, 8, 8, 8, 8, 8, 8, 8, 8, 8, 8, 8, 8, 8, 8, 8, 8, 8, 8, 8, 8, 8, 8, 8, 8, 8, 8, 8, 8, 8, 8, 8, 8, 8, 8, 8, 8, 8, 8, 8, 8, 8, 8, 8, 8, 8, 8, 8, 8, 8, 8, 8, 8, 8, 8, 8, 8, 8, 8, 8, 8, 8, 8, 8, 8, 8, 8, 8, 8, 8, 8, 8, 8, 8, 8, 8, 8, 8, 8, 8, 8, 8, 8, 8, 8, 8, 8, 8, 8, 8, 8, 8, 8, 8, 8, 8, 8, 8, 8, 8, 8, 8, 8, 8, 8, 8, 8, 8, 8, 8, 8, 8, 8, 8, 8, 8, 8, 8, 8, 8, 8, 8, 8, 8, 8])) (i := (IntKind.wrap .u8 j3.1)) (kd := .u8) (by kernel_rfl) hx5) ?_
    refine z1 3 ⟨[(2, (vI (iadd j3.2 (IntKind.wrap .i64 x5))))], []⟩ (by kernel_rfl) ?_
    refine sem_retS (by kernel_rfl) (fun τ hτ => ?_)
    obtain rfl := Option.some.inj h
    exact rk_ret hτ [(2, (vI (iadd j3.2 (IntKind.wrap .i64 x5))))] (here (by kernel_rfl)) (by kernel_rfl)
   refine z3 2 ⟨[(0, (vK .u64 j2.1)), (2, (vI j2.2)), (14, (vB (decide (j2.1 ≥ 256))))], []⟩ (by kernel_rfl) ?_
   refine sem_cond (decide (j2.1 ≥ 256)) (by kernel_rfl) (by kernel_rfl) (fun hb => ?_) (fun hb => ?_)
   ·replace h := iteT hb h
    refine z3 3 ⟨[(0, (vK .u64 (Int.fdiv j2.1 (2 ^ (min (Int.toNat 8) 64))))), (2, (vI j2.2))], []⟩ (by kernel_rfl) ?_
    refine sem_region (by kernel_rfl) ?_
    refine z6 3 (by kernel_rfl) (fun τ hτ => ?_)
    exact jk_normal ((Int.fdiv j2.1 (2 ^ (min (Int.toNat 8) 64))), (iadd j2.2 8)) h hτ (here (by kernel_rfl))
   ·replace h := iteF hb h
    refine sem_skipS (by kernel_rfl) (fun τ hτ => ?_)
    exact jk_normal (j2.1, j2.2) h hτ (here (by kernel_rfl))
  refine z3 2 ⟨[(0, (vK .u64 j1.1)), (2, (vI j1.2)), (8, (vB (decide (j1.1 ≥ 65536))))], []⟩ (by kernel_rfl) ?_
  refine sem_cond (decide (j1.1 ≥ 65536)) (by kernel_rfl) (by kernel_rfl) (fun hb => ?_) (fun hb => ?_)
  ·replace h := iteT hb h
   refine z3 3 ⟨[(0, (vK .u64 (Int.fdiv j1.1 (2 ^ (min (Int.toNat 16) 64))))), (2, (vI j1.2))], []⟩ (by kernel_rfl) ?_
   refine sem_region (by kernel_rfl) ?_
   refine z6 3 (by kernel_rfl) (fun τ hτ => ?_)
   exact jk_normal ((Int.fdiv j1.1 (2 ^ (min (Int.toNat 16) 64))), (iadd j1.2 16)) h hτ (here (by kernel_rfl))
  ·replace h := iteF hb h
   refine sem_skipS (by kernel_rfl) (fun τ hτ => ?_)
   exact jk_normal (j1.1, j1.2) h hτ (here (by kernel_rfl))
 refine z3 2 ⟨[(0, (vK .u64 x0)), (2, (vI 0)), (4, (vB (decide (x0 ≥ 4294967296))))], []⟩ (by kernel_rfl) ?_
 refine sem_cond (decide (x0 ≥ 4294967296)) (by kernel_rfl) (by kernel_rfl) (fun hb => ?_) (fun hb => ?_)
 ·replace h := iteT hb h
  refine z3 3 ⟨[(0, (vK .u64 (Int.fdiv x0 (2 ^ (min (Int.toNat 32) 64)))))], []⟩ (by kernel_rfl) ?_
  refine sem_region (by kernel_rfl) ?_
  refine z6 1 (by kernel_rfl) (fun τ hτ => ?_)
  exact jk_normal ((Int.fdiv x0 (2 ^ (min (Int.toNat 32) 64))), 32) h hτ (here (by kernel_rfl))
 ·replace h := iteF hb h
  refine sem_skipS (by kernel_rfl) (fun τ hτ => ?_)
  exact jk_normal (x0, 0) h hτ (here (by kernel_rfl))
theorem W.bits_Len_ok {x0 : Int} {r : Int} (h : bits_Len x0 = some r) : PC G.P 124 [(vK .u64 x0)] [] (vI r) [] := by
 refine pc_of G (fn := Try.f124) Try.func124 (by kernel_rfl) (by kernel_rfl) (by kernel_rfl) (by kernel_rfl) (by kernel_rfl) ?_
 refine sem_set ⟨[(0, (vK .u64 x0))], []⟩ (by kernel_rfl) ?_
 refine z3 1 ⟨[(0, (vK .u64 x0))], []⟩ (by kernel_rfl) ?_
 refine sem_seq (by kernel_rfl) ?_
 refine sem_condF (by kernel_rfl) (by kernel_rfl) ?_
 refine z4 ⟨[(0, (vK .u64 x0))], []⟩ (by kernel_rfl) ?_
 refine z7 (by kernel_rfl) ?_
 refine evs_run 1 (by kernel_rfl) ?_
 obtain ⟨r2, hr2, h⟩ := bindS h
 refine evs_callP [] (by kernel_rfl) (W.bits_Len64_ok hr2) (by kernel_rfl) (.inl rfl) (by kernel_rfl) ?_
 refine z1 1 ⟨[(2, (vI r2))], []⟩ (by kernel_rfl) ?_
 refine sem_retS (by kernel_rfl) (fun τ hτ => ?_)
 obtain rfl := Option.some.inj h
 exact rk_ret hτ [(2, (vI r2))] (here (by kernel_rfl)) (by kernel_rfl)
theorem W.slices_nextPowerOfTwo_ok {length : Int} {r : Int} (h : slices_nextPowerOfTwo length = some r) : PC G.P 145 [(vI length)] [] (vK .u64 r) [] := by
 refine pc_of G (fn := Try.f145) Try.func145 (by kernel_rfl) (by kernel_rfl) (by kernel_rfl) (by kernel_rfl) (by kernel_rfl) ?_
 refine sem_set ⟨[(0, (vI length))], []⟩ (by kernel_rfl) ?_
 refine z3 1 ⟨[(0, (vI length))], []⟩ (by kernel_rfl) ?_
 refine z7 (by kernel_rfl) ?_
 refine evs_run 2 (by kernel_rfl) ?_
 obtain ⟨r2, hr2, h⟩ := bindS h
 refine evs_callP [] (by kernel_rfl) (W.bits_Len_ok hr2) (by kernel_rfl) (.inl rfl) (by kernel_rfl) ?_
 obtain ⟨hb, h⟩ := iteN h
 refine evs_op (st_shl (a := 1) (b := r2) (kd := .u64) (k2 := .i64) (by kernel_rfl) (of_decide_eq_true hb)) ?_
 refine z1 1 ⟨[(2, (vK .u64 (IntKind.wrap .u64 (1 * 2 ^ (min (Int.toNat r2) 64)))))], []⟩ (by kernel_rfl) ?_
 refine sem_retS (by kernel_rfl) (fun τ hτ => ?_)
 obtain rfl := Option.some.inj h
 exact rk_ret hτ [(2, (vK .u64 (IntKind.wrap .u64 (1 * 2 ^ (min (Int.toNat r2) 64)))))] (here (by kernel_rfl)) (by kernel_rfl)
theorem W.slices_xorshift_Next_ok {h0_0 : Int} {r : Int} (h : slices_xorshift_Next h0_0 = some r) : PC G.P 146 [(.ptr 1000000 0)] [(1000000, .box [(vK .u64 h0_0)])] (vK .u64 r) [(1000000, .box [(vK .u64 (kxor .u64 (kxor .u64 (kxor .u64 h0_0 (IntKind.wrap .u64 (h0_0 * 2 ^ (min (Int.toNat 13) 64)))) (Int.fdiv (kxor .u64 h0_0 (IntKind.wrap .u64 (h0_0 * 2 ^ (min (Int.toNat 13) 64)))) (2 ^ (min (Int.toNat 7) 64)))) (IntKind.wrap .u64 ((kxor .u64 (kxor .u64 h0_0 (IntKind.wrap .u64 (h0_0 * 2 ^ (min (Int.toNat 13) 64)))) (Int.fdiv (kxor .u64 h0_0 (IntKind.wrap .u64 (h0_0 * 2 ^ (min (Int.toNat 13) 64)))) (2 ^ (min (Int.toNat 7) 64)))) * 2 ^ (min (Int.toNat 17) 64)))))])] := by
 refine pc_of G (fn := Try.f146) Try.func146 (by kernel_rfl) (by kernel_rfl) (by kernel_rfl) (by kernel_rfl) (by kernel_rfl) ?_
 refine sem_set ⟨[(0, (.ptr 1000000 0))], [(1000000, .box [(vK .u64 h0_0)])]⟩ (by kernel_rfl) ?_
 refine z3 1 ⟨[(0, (.ptr 1000000 0))], [(1000000, .box [(vK .u64 h0_0)])]⟩ (by kernel_rfl) ?_
 refine sem_seq (by kernel_rfl) ?_
 refine sem_drawN [] [] [] [] [] 7 (by kernel_rfl) (by kernel_rfl) (by kernel_rfl) ?_
 refine evd_run 7 (by kernel_rfl) ?_
 refine evd_end (by kernel_rfl) ?_
 refine evo_run 3 (by kernel_rfl) ?_
 refine evo_endS (by kernel_rfl) (fun τ hτ => ?_)
 refine th_normalS hτ ⟨[(0, (.ptr 1000000 0))], [(1000000, .box [(vK .u64 (kxor .u64 h0_0 (IntKind.wrap .u64 (h0_0 * 2 ^ (min (Int.toNat 13) 64)))))])]⟩ (here (by kernel_rfl)) ?_
 refine sem_seq (by kernel_rfl) ?_
 refine sem_drawN [] [] [] [] [] 7 (by kernel_rfl) (by kernel_rfl) (by kernel_rfl) ?_
 refine evd_run 7 (by kernel_rfl) ?_
 refine evd_end (by kernel_rfl) ?_
 refine evo_run 3 (by kernel_rfl) ?_
 refine evo_endS (by kernel_rfl) (fun τ hτ => ?_)
 refine th_normalS hτ ⟨[(0, (.ptr 1000000 0))], [(1000000, .box [(vK .u64 (kxor .u64 (kxor .u64 h0_0 (IntKind.wrap .u64 (h0_0 * 2 ^ (min (Int.toNat 13) 64)))) (Int.fdiv (kxor .u64 h0_0 (IntKind.wrap .u64 (h0_0 * 2 ^ (min (Int.toNat 13) 64)))) (2 ^ (min (Int.toNat 7) 64)))))])]⟩ (here (by kernel_rfl)) ?_
 refine sem_seq (by kernel_rfl) ?_
 refine sem_drawN [] [] [] [] [] 7 (by kernel_rfl) (by kernel_rfl) (by kernel_rfl) ?_
 refine evd_run 7 (by kernel_rfl) ?_
 refine evd_end (by kernel_rfl) ?_
 refine evo_run 3 (by kernel_rfl) ?_
 refine evo_endS (by kernel_rfl) (fun τ hτ => ?_)
 refine th_normalS hτ ⟨[(0, (.ptr 1000000 0))], [(1000000, .box [(vK .u64 (kxor .u64 (kxor .u64 (kxor .u64 h0_0 (IntKind.wrap .u64 (h0_0 * 2 ^ (min (Int.toNat 13) 64)))) (Int.fdiv (kxor .u64 h0_0 (IntKind.wrap .u64 (h0_0 * 2 ^ (min (Int.toNat 13) 64)))) (2 ^ (min (Int.toNat 7) 64)))) (IntKind.wrap .u64 ((kxor .u64 (kxor .u64 h0_0 (IntKind.wrap .u64 (h0_0 * 2 ^ (min (Int.toNat 13) 64)))) (Int.fdiv (kxor .u64 h0_0 (IntKind.wrap .u64 (h0_0 * 2 ^ (min (Int.toNat 13) 64)))) (2 ^ (min (Int.toNat 7) 64)))) * 2 ^ (min (Int.toNat 17) 64)))))])]⟩ (here (by kernel_rfl)) ?_
 refine z8 4 ⟨[(2, (vK .u64 (kxor .u64 (kxor .u64 (kxor .u64 h0_0 (IntKind.wrap .u64 (h0_0 * 2 ^ (min (Int.toNat 13) 64)))) (Int.fdiv (kxor .u64 h0_0 (IntKind.wrap .u64 (h0_0 * 2 ^ (min (Int.toNat 13) 64)))) (2 ^ (min (Int.toNat 7) 64)))) (IntKind.wrap .u64 ((kxor .u64 (kxor .u64 h0_0 (IntKind.wrap .u64 (h0_0 * 2 ^ (min (Int.toNat 13) 64)))) (Int.fdiv (kxor .u64 h0_0 (IntKind.wrap .u64 (h0_0 * 2 ^ (min (Int.toNat 13) 64)))) (2 ^ (min (Int.toNat 7) 64)))) * 2 ^ (min (Int.toNat 17) 64))))))], [(1000000, .box [(vK .u64 (kxor .u64 (kxor .u64 (kxor .u64 h0_0 (IntKind.wrap .u64 (h0_0 * 2 ^ (min (Int.toNat 13) 64)))) (Int.fdiv (kxor .u64 h0_0 (IntKind.wrap .u64 (h0_0 * 2 ^ (min (Int.toNat 13) 64)))) (2 ^ (min (Int.toNat 7) 64)))) (IntKind.wrap .u64 ((kxor .u64 (kxor .u64 h0_0 (IntKind.wrap .u64 (h0_0 * 2 ^ (min (Int.toNat 13) 64)))) (Int.fdiv (kxor .u64 h0_0 (IntKind.wrap .u64 (h0_0 * 2 ^ (min (Int.toNat 13) 64)))) (2 ^ (min (Int.toNat 7) 64)))) * 2 ^ (min (Int.toNat 17) 64)))))])]⟩ (by kernel_rfl) (fun τ hτ => ?_)
 obtain rfl := Option.some.inj h
 exact rk_ret hτ [(2, (vK .u64 (kxor .u64 (kxor .u64 (kxor .u64 h0_0 (IntKind.wrap .u64 (h0_0 * 2 ^ (min (Int.toNat 13) 64)))) (Int.fdiv (kxor .u64 h0_0 (IntKind.wrap .u64 (h0_0 * 2 ^ (min (Int.toNat 13) 64)))) (2 ^ (min (Int.toNat 7) 64)))) (IntKind.wrap .u64 ((kxor .u64 (kxor .u64 h0_0 (IntKind.wrap .u64 (h0_0 * 2 ^ (min (Int.toNat 13) 64)))) (Int.fdiv (kxor .u64 h0_0 (IntKind.wrap .u64 (h0_0 * 2 ^ (min (Int.toNat 13) 64)))) (2 ^ (min (Int.toNat 7) 64)))) * 2 ^ (min (Int.toNat 17) 64))))))] (here (by kernel_rfl)) (by kernel_rfl)
theorem W.sheetmetallaw01_Many_ok {l : (List Rect)} {r : Bool} (h : sheetmetallaw01_Many l = some r) : PC G.P 43 [(.sl (List.map c_Rect l))] [] (vB r) [] := by
 refine pc_of G (fn := Try.f43) Try.func43 (by kernel_rfl) (by kernel_rfl) (by kernel_rfl) (by kernel_rfl) (by kernel_rfl) ?_
 refine sem_set ⟨[(0, (.sl (List.map c_Rect l)))], []⟩ (by kernel_rfl) ?_
 refine z3 1 ⟨[(0, (.sl (List.map c_Rect l)))], []⟩ (by kernel_rfl) ?_
 refine z7 (by kernel_rfl) ?_
 refine evs_run 1 (by kernel_rfl) ?_
 refine evs_op (st_len (c := c_Rect) (l := l) (x := (.sl (List.map c_Rect l))) (by kernel_rfl) (by kernel_rfl)) ?_
 refine z1 2 ⟨[(2, (vB (decide ((l.length : Int) > 60))))], []⟩ (by kernel_rfl) ?_
 refine sem_retS (by kernel_rfl) (fun τ hτ => ?_)
 obtain rfl := Option.some.inj h
 exact rk_ret hτ [(2, (vB (decide ((l.length : Int) > 60))))] (here (by kernel_rfl)) (by kernel_rfl)
theorem W.geom_rects_ok {lists : (List (List Rect))} {r : Int} (h : geom_rects lists = some r) : PC G.P 83 [(.sl (List.map (cS c_Rect) lists))] [] (vI r) [] := by
 refine pc_of G (fn := Try.f83) Try.func83 (by kernel_rfl) (by kernel_rfl) (by kernel_rfl) (by kernel_rfl) (by kernel_rfl) ?_
 refine sem_set ⟨[(0, (.sl (List.map (cS c_Rect) lists)))], []⟩ (by kernel_rfl) ?_
 refine z3 1 ⟨[(0, (.sl (List.map (cS c_Rect) lists)))], []⟩ (by kernel_rfl) ?_
 refine sem_seq (by kernel_rfl) ?_
 refine z7 (by kernel_rfl) ?_
 refine evs_run 1 (by kernel_rfl) ?_
 refine evs_op (st_len (c := (cS c_Rect)) (l := lists) (x := (.sl (List.map (cS c_Rect) lists))) (by kernel_rfl) (by kernel_rfl)) ?_
 refine z1 1 ⟨[(0, (.sl (List.map (cS c_Rect) lists))), (9, (.sl (List.map (cS c_Rect) lists))), (10, (vI (lists.length : Int))), (11, (vI 0))], []⟩ (by kernel_rfl) ?_
 refine sem_block (by kernel_rfl) ?_
 obtain ⟨x32, hx32, h⟩ := bindS h
 refine sem_loopS (fun (s23 : Int) => ⟨[(0, (.sl (List.map (cS c_Rect) lists))), (9, (.sl (List.map (cS c_Rect) lists))), (10, (vI (lists.length : Int))), (11, (vI s23))], []⟩) (fun (x32 : Unit ⊕ Unit) => match x32 with | .inl j33 => (.ret, ⟨[(2, (vI 4))], []⟩) | .inr j34 => (.exit 0, ⟨[(0, (.sl (List.map (cS c_Rect) lists)))], []⟩)) (geom_rects_l1 lists) 0 x32 (by kernel_rfl) (here (by kernel_rfl)) hx32 ?_ ?_ ?_
 ·intro s23 r h
  refine z3 1 ⟨[(0, (.sl (List.map (cS c_Rect) lists))), (9, (.sl (List.map (cS c_Rect) lists))), (10, (vI (lists.length : Int))), (11, (vI s23)), (12, (vB (decide (s23 < (lists.length : Int)))))], []⟩ (by kernel_rfl) ?_
  refine sem_seq (by kernel_rfl) ?_
  refine sem_cond (decide (s23 < (lists.length : Int))) (by kernel_rfl) (by kernel_rfl) (fun hb => ?_) (fun hb => ?_)
  ·replace h := iteT hb h
   refine z4 ⟨[(0, (.sl (List.map (cS c_Rect) lists))), (9, (.sl (List.map (cS c_Rect) lists))), (10, (vI (lists.length : Int))), (11, (vI s23))], []⟩ (by kernel_rfl) ?_
   refine sem_seq (by kernel_rfl) ?_
   refine sem_block (by kernel_rfl) ?_
   refine z7 (by kernel_rfl) ?_
   obtain ⟨x31, hx31, h⟩ := bindS h
   refine evs_op (st_idx (c := (cS c_Rect)) (l := lists) (i := s23) (kd := .i64) (sz := 1) (by kernel_rfl) hx31 rfl) ?_
   refine z1 2 ⟨[(0, (.sl (List.map (cS c_Rect) lists))), (4, (.sl (List.map c_Rect x31))), (9, (.sl (List.map (cS c_Rect) lists))), (10, (vI (lists.length : Int))), (11, (vI s23))], []⟩ (by kernel_rfl) ?_
   refine z7 (by kernel_rfl) ?_
   refine evs_run 1 (by kernel_rfl) ?_
   refine evs_op (st_len (c := c_Rect) (l := x31) (x := (.sl (List.map c_Rect x31))) (by kernel_rfl) (by kernel_rfl)) ?_
   refine z1 1 ⟨[(0, (.sl (List.map (cS c_Rect) lists))), (9, (.sl (List.map (cS c_Rect) lists))), (10, (vI (lists.length : Int))), (11, (vI s23)), (17, (vB (decide ((x31.length : Int) > 48))))], []⟩ (by kernel_rfl) ?_
   refine sem_cond (decide ((x31.length : Int) > 48)) (by kernel_rfl) (by kernel_rfl) (fun hb => ?_) (fun hb => ?_)
   ·replace h := iteT hb h
    refine z8 1 ⟨[(2, (vI 4))], []⟩ (by kernel_rfl) (fun τ hτ => ?_)
    refine bl_ret ?_
    refine th_ret ?_
    obtain rfl := Option.some.inj h
    exact lk_outS hτ rfl (here (by kernel_rfl))
   ·replace h := iteF hb h
    refine sem_skipS (by kernel_rfl) (fun τ hτ => ?_)
    refine bl_normal ?_
    refine th_normalS hτ ⟨[(0, (.sl (List.map (cS c_Rect) lists))), (9, (.sl (List.map (cS c_Rect) lists))), (10, (vI (lists.length : Int))), (11, (vI s23))], []⟩ (here (by kernel_rfl)) ?_
    refine sem_region (by kernel_rfl) ?_
    refine z6 2 (by kernel_rfl) (fun τ hτ => ?_)
    obtain rfl := Option.some.inj h
    exact lk_nextS hτ (here (by kernel_rfl))
  ·replace h := iteF hb h
   refine sem_exitS 0 (by kernel_rfl) rfl (fun τ hτ => ?_)
   refine th_exit ?_
   obtain rfl := Option.some.inj h
   exact lk_outS hτ rfl (here (by kernel_rfl))
 ·intro x
  rcases x with _ | _ <;> rfl
 ·intro τ hτ
  rcases x32 with j33 | j34
  ·refine bl_ret ?_
   refine th_ret ?_
   obtain rfl := Option.some.inj h
   exact rk_ret hτ [(2, (vI 4))] (here (by kernel_rfl)) (by kernel_rfl)
  ·refine bl_hit (by kernel_rfl) ?_
   refine th_normalS hτ ⟨[(0, (.sl (List.map (cS c_Rect) lists)))], []⟩ (here (by kernel_rfl)) ?_
   refine sem_seq (by kernel_rfl) ?_
   refine z7 (by kernel_rfl) ?_
   refine evs_run 1 (by kernel_rfl) ?_
   refine evs_op (st_len (c := (cS c_Rect)) (l := lists) (x := (.sl (List.map (cS c_Rect) lists))) (by kernel_rfl) (by kernel_rfl)) ?_
   refine z1 1 ⟨[(19, (.sl (List.map (cS c_Rect) lists))), (20, (vI (lists.length : Int))), (21, (vI 0))], []⟩ (by kernel_rfl) ?_
   refine sem_block (by kernel_rfl) ?_
   obtain ⟨x414, hx414, h⟩ := bindS h
   refine sem_loopS (fun (s289 : Int) => ⟨[(19, (.sl (List.map (cS c_Rect) lists))), (20, (vI (lists.length : Int))), (21, (vI s289))], []⟩) (fun (x414 : Unit ⊕ Unit) => match x414 with | .inl j415 => (.ret, ⟨[(2, (vI 1))], []⟩) | .inr j416 => (.exit 2, ⟨[], []⟩)) (geom_rects_l3 lists) 0 x414 (by kernel_rfl) (here (by kernel_rfl)) hx414 ?_ ?_ ?_
   ·intro s289 r h
    refine z3 1 ⟨[(19, (.sl (List.map (cS c_Rect) lists))), (20, (vI (lists.length : Int))), (21, (vI s289)), (22, (vB (decide (s289 < (lists.length : Int)))))], []⟩ (by kernel_rfl) ?_
    refine sem_seq (by kernel_rfl) ?_
    refine sem_cond (decide (s289 < (lists.length : Int))) (by kernel_rfl) (by kernel_rfl) (fun hb => ?_) (fun hb => ?_)
    ·replace h := iteT hb h
     refine z4 ⟨[(19, (.sl (List.map (cS c_Rect) lists))), (20, (vI (lists.length : Int))), (21, (vI s289))], []⟩ (by kernel_rfl) ?_
     refine sem_seq (by kernel_rfl) ?_
     refine sem_block (by kernel_rfl) ?_
     refine z7 (by kernel_rfl) ?_
     obtain ⟨x384, hx384, h⟩ := bindS h
     refine evs_op (st_idx (c := (cS c_Rect)) (l := lists) (i := s289) (kd := .i64) (sz := 1) (by kernel_rfl) hx384 rfl) ?_
     refine z1 2 ⟨[(6, (.sl (List.map c_Rect x384))), (19, (.sl (List.map (cS c_Rect) lists))), (20, (vI (lists.length : Int))), (21, (vI s289))], []⟩ (by kernel_rfl) ?_
     refine z7 (by kernel_rfl) ?_
     refine evs_run 1 (by kernel_rfl) ?_
     refine evs_op (st_len (c := c_Rect) (l := x384) (x := (.sl (List.map c_Rect x384))) (by kernel_rfl) (by kernel_rfl)) ?_
     refine z1 1 ⟨[(19, (.sl (List.map (cS c_Rect) lists))), (20, (vI (lists.length : Int))), (21, (vI s289)), (25, (.sl (List.map c_Rect x384))), (26, (vI (x384.length : Int))), (27, (vI 0))], []⟩ (by kernel_rfl) ?_
     refine sem_block (by kernel_rfl) ?_
     obtain ⟨x411, hx411, h⟩ := bindS h
     refine sem_loopS (fun (s394 : Int) => ⟨[(19, (.sl (List.map (cS c_Rect) lists))), (20, (vI (lists.length : Int))), (21, (vI s289)), (25, (.sl (List.map c_Rect x384))), (26, (vI (x384.length : Int))), (27, (vI s394))], []⟩) (fun (x411 : Unit ⊕ Unit) => match x411 with | .inl j412 => (.ret, ⟨[(2, (vI 1))], []⟩) | .inr j413 => (.exit 4, ⟨[(19, (.sl (List.map (cS c_Rect) lists))), (20, (vI (lists.length : Int))), (21, (vI s289))], []⟩)) (geom_rects_l2 x384) 0 x411 (by kernel_rfl) (here (by kernel_rfl)) hx411 ?_ ?_ ?_
     ·intro s394 r h
      refine z3 1 ⟨[(19, (.sl (List.map (cS c_Rect) lists))), (20, (vI (lists.length : Int))), (21, (vI s289)), (25, (.sl (List.map c_Rect x384))), (26, (vI (x384.length : Int))), (27, (vI s394)), (28, (vB (decide (s394 < (x384.length : Int)))))], []⟩ (by kernel_rfl) ?_
      refine sem_seq (by kernel_rfl) ?_
      refine sem_cond (decide (s394 < (x384.length : Int))) (by kernel_rfl) (by kernel_rfl) (fun hb => ?_) (fun hb => ?_)
      ·replace h := iteT hb h
       refine z4 ⟨[(19, (.sl (List.map (cS c_Rect) lists))), (20, (vI (lists.length : Int))), (21, (vI s289)), (25, (.sl (List.map c_Rect x384))), (26, (vI (x384.length : Int))), (27, (vI s394))], []⟩ (by kernel_rfl) ?_
       refine sem_seq (by kernel_rfl) ?_
       refine sem_block (by kernel_rfl) ?_
       refine z7 (by kernel_rfl) ?_
       obtain ⟨x408, hx408, h⟩ := bindS h
       refine evs_op (st_idx (c := c_Rect) (l := x384) (i := s394) (kd := .i64) (sz := 4) (by kernel_rfl) hx408 rfl) ?_
       refine z1 3 ⟨[(8, (.ptr 8 0)), (19, (.sl (List.map (cS c_Rect) lists))), (20, (vI (lists.length : Int))), (21, (vI s289)), (25, (.sl (List.map c_Rect x384))), (26, (vI (x384.length : Int))), (27, (vI s394))], [(8, .box [(vI x408.X), (vI x408.Y), (vI x408.W), (vI x408.H)])]⟩ (by kernel_rfl) ?_
       refine z7 (by kernel_rfl) ?_
       refine evs_run 1 (by kernel_rfl) ?_
       obtain ⟨r410, hr410, h⟩ := bindS h
       refine evs_callP [] (by kernel_rfl) (W.geom_ValidRect_ok hr410) (by kernel_rfl) (.inl rfl) (by kernel_rfl) ?_
       refine z1 1 ⟨[(19, (.sl (List.map (cS c_Rect) lists))), (20, (vI (lists.length : Int))), (21, (vI s289)), (25, (.sl (List.map c_Rect x384))), (26, (vI (x384.length : Int))), (27, (vI s394)), (33, (vB (!r410)))], []⟩ (by kernel_rfl) ?_
       refine sem_cond (!r410) (by kernel_rfl) (by kernel_rfl) (fun hb => ?_) (fun hb => ?_)
       ·replace h := iteT hb h
        refine z8 1 ⟨[(2, (vI 1))], []⟩ (by kernel_rfl) (fun τ hτ => ?_)
        refine bl_ret ?_
        refine th_ret ?_
        obtain rfl := Option.some.inj h
        exact lk_outS hτ rfl (here (by kernel_rfl))
       ·replace h := iteF hb h
        refine sem_skipS (by kernel_rfl) (fun τ hτ => ?_)
        refine bl_normal ?_
        refine th_normalS hτ ⟨[(19, (.sl (List.map (cS c_Rect) lists))), (20, (vI (lists.length : Int))), (21, (vI s289)), (25, (.sl (List.map c_Rect x384))), (26, (vI (x384.length : Int))), (27, (vI s394))], []⟩ (here (by kernel_rfl)) ?_
        refine sem_region (by kernel_rfl) ?_
        refine z6 2 (by kernel_rfl) (fun τ hτ => ?_)
        obtain rfl := Option.some.inj h
        exact lk_nextS hτ (here (by kernel_rfl))
      ·replace h := iteF hb h
       refine sem_exitS 4 (by kernel_rfl) rfl (fun τ hτ => ?_)
       refine th_exit ?_
       obtain rfl := Option.some.inj h
       exact lk_outS hτ rfl (here (by kernel_rfl))
     ·intro x
      rcases x with _ | _ <;> rfl
     ·intro τ hτ
      rcases x411 with j412 | j413
      ·refine bl_ret ?_
       refine bl_ret ?_
       refine th_ret ?_
       obtain rfl := Option.some.inj h
       exact lk_outS hτ rfl (here (by kernel_rfl))
      ·refine bl_hit (by kernel_rfl) ?_
       refine bl_normal ?_
       refine th_normalS hτ ⟨[(19, (.sl (List.map (cS c_Rect) lists))), (20, (vI (lists.length : Int))), (21, (vI s289))], []⟩ (here (by kernel_rfl)) ?_
       refine sem_region (by kernel_rfl) ?_
       refine z6 2 (by kernel_rfl) (fun τ hτ => ?_)
       obtain rfl := Option.some.inj h
       exact lk_nextS hτ (here (by kernel_rfl))
    ·replace h := iteF hb h
     refine sem_exitS 2 (by kernel_rfl) rfl (fun τ hτ => ?_)
     refine th_exit ?_
     obtain rfl := Option.some.inj h
     exact lk_outS hτ rfl (here (by kernel_rfl))
   ·intro x
    rcases x with _ | _ <;> rfl
   ·intro τ hτ
    rcases x414 with j415 | j416
    ·refine bl_ret ?_
     refine th_ret ?_
     obtain rfl := Option.some.inj h
     exact rk_ret hτ [(2, (vI 1))] (here (by kernel_rfl)) (by kernel_rfl)
    ·refine bl_hit (by kernel_rfl) ?_
     refine th_normalS hτ ⟨[], []⟩ (here (by kernel_rfl)) ?_
     refine z8 1 ⟨[(2, (vI 0))], []⟩ (by kernel_rfl) (fun τ hτ => ?_)
     obtain rfl := Option.some.inj h
     exact rk_ret hτ [(2, (vI 0))] (here (by kernel_rfl)) (by kernel_rfl)
theorem W.slices_Clone_Lint_int_ok {s r : (List Int)} (h : slices_Clone_Lint_int s = some r) : PC G.P 119 [.sl (List.map cI s)] [] (.row (.top 0) 3) [(0, .row 3 [] (List.map cI r))] := by
 replace h : app [] s = some r := h
 refine pc_of G (fn := Try.f119) Try.func119 (by kernel_rfl) (by kernel_rfl) (by kernel_rfl) (by kernel_rfl) (by kernel_rfl) ?_
 refine z3 1 ⟨[(0, .sl (List.map cI s))], []⟩ (by kernel_rfl) ?_
 refine sem_seq (by kernel_rfl) ?_
 refine z7 (by kernel_rfl) ?_
 refine evs_run 1 (by kernel_rfl) ?_
 refine evs_isnil (es := List.map cI s) (by kernel_rfl) (fun hn => ?_) ?_
 ·obtain rfl : s = [] := List.map_eq_nil_iff.1 hn
  obtain rfl : [] = r := Option.some.inj ((app_eq (by simp [LIM])).symm.trans h)
  refine evs_endS (by kernel_rfl) (fun τ hτ => ?_)
  refine th_normalS hτ ⟨[(0, .sl (List.map cI [])), (4, vB true)], []⟩ (here (by kernel_rfl)) ?_
  refine sem_condT (by kernel_rfl) (by kernel_rfl) ?_
  refine z8 1 ⟨[(2, .row (.top 2) 3)], [(2, .row 3 [] (List.map cI []))]⟩ (by kernel_rfl) (fun τ hτ => ?_)
  refine th_ret ?_
  exact rk_ret hτ [(2, .row (.top 0) 3)] (subR_of [(2, 0)] rfl rfl (by kernel_rfl)) (by kernel_rfl)
 ·refine evs_endS (by kernel_rfl) (fun τ hτ => ?_)
  refine th_normalS hτ ⟨[(0, .sl (List.map cI s)), (4, vB false)], []⟩ (here (by kernel_rfl)) ?_
  refine sem_condF (by kernel_rfl) (by kernel_rfl) ?_
  refine z4 ⟨[(0, .sl (List.map cI s))], []⟩ (by kernel_rfl) ?_
  refine z7 (by kernel_rfl) ?_
  refine evs_at (at_build (es := List.map cI []) (e := 3) (d := 5) (by kernel_rfl)) ?_
  refine evs_run 1 (by kernel_rfl) ?_
  refine evs_op (st_app (c := cI) (l := []) (l2 := s) (x := .sl (List.map cI s)) (g := 5) (e := 3) (sz := 1) (d := 7) (by kernel_rfl) (by kernel_rfl) (by kernel_rfl) (by kernel_rfl) (fun _ => rfl) rfl h) ?_
  refine z1 1 ⟨[(2, .row (.top 5) 3)], [(5, .row 3 [] (List.map cI r))]⟩ (by kernel_rfl) ?_
  refine sem_retS (by kernel_rfl) (fun τ hτ => ?_)
  exact rk_ret hτ [(2, .row (.top 0) 3)] (subR_of [(5, 0)] rfl rfl (by kernel_rfl)) (by kernel_rfl)
theorem W.cmp_isNaN_int_ok {x0 : Int} {r : Bool} (h : cmp_isNaN_int x0 = some r) : PC G.P 122 [(vI x0)] [] (vB r) [] := by
 refine pc_of G (fn := Try.f122) Try.func122 (by kernel_rfl) (by kernel_rfl) (by kernel_rfl) (by kernel_rfl) (by kernel_rfl) ?_
 refine sem_set ⟨[(0, (vI x0))], []⟩ (by kernel_rfl) ?_
 refine z3 1 ⟨[(0, (vI x0))], []⟩ (by kernel_rfl) ?_
 refine z8 4 ⟨[(2, (vB (x0 != x0)))], []⟩ (by kernel_rfl) (fun τ hτ => ?_)
 obtain rfl := Option.some.inj h
 exact rk_ret hτ [(2, (vB (x0 != x0)))] (here (by kernel_rfl)) (by kernel_rfl)
theorem W.cmp_Compare_int_ok {x0 : Int} {y : Int} {r : Int} (h : cmp_Compare_int x0 y = some r) : PC G.P 112 [(vI x0), (vI y)] [] (vI r) [] := by
 refine pc_of G (fn := Try.f112) Try.func112 (by kernel_rfl) (by kernel_rfl) (by kernel_rfl) (by kernel_rfl) (by kernel_rfl) ?_
 refine sem_set ⟨[(0, (vI x0)), (1, (vI y))], []⟩ (by kernel_rfl) ?_
 refine z3 1 ⟨[(0, (vI x0)), (1, (vI y))], []⟩ (by kernel_rfl) ?_
 refine z7 (by kernel_rfl) ?_
 refine evs_run 1 (by kernel_rfl) ?_
 obtain ⟨r2, hr2, h⟩ := bindS h
 refine evs_callP [] (by kernel_rfl) (W.cmp_isNaN_int_ok hr2) (by kernel_rfl) (.inl rfl) (by kernel_rfl) ?_
 refine z1 1 ⟨[(0, (vI x0)), (1, (vI y)), (5, (vB r2))], []⟩ (by kernel_rfl) ?_
 refine z7 (by kernel_rfl) ?_
 refine evs_run 1 (by kernel_rfl) ?_
 obtain ⟨r4, hr4, h⟩ := bindS h
 refine evs_callP [] (by kernel_rfl) (W.cmp_isNaN_int_ok hr4) (by kernel_rfl) (.inl rfl) (by kernel_rfl) ?_
 refine z1 1 ⟨[(0, (vI x0)), (1, (vI y)), (5, (vB r2)), (6, (vB r4))], []⟩ (by kernel_rfl) ?_
 refine sem_seq (by kernel_rfl) ?_
 refine z3 1 ⟨[(0, (vI x0)), (1, (vI y)), (6, (vB r4)), (11, (vB r2))], []⟩ (by kernel_rfl) ?_
 refine sem_cond r2 (by kernel_rfl) (by kernel_rfl) (fun hb => ?_) (fun hb => ?_)
 ·replace h := iteT hb h
  refine sem_seq (by kernel_rfl) ?_
  refine z3 1 ⟨[(12, (vB r4))], []⟩ (by kernel_rfl) ?_
  refine sem_cond r4 (by kernel_rfl) (by kernel_rfl) (fun hb => ?_) (fun hb => ?_)
  ·replace h := iteT hb h
   refine z8 1 ⟨[(4, (vI 0))], []⟩ (by kernel_rfl) (fun τ hτ => ?_)
   refine th_ret ?_
   refine th_ret ?_
   obtain rfl := Option.some.inj h
   exact rk_ret hτ [(4, (vI 0))] (here (by kernel_rfl)) (by kernel_rfl)
  ·replace h := iteF hb h
   refine z4 ⟨[], []⟩ (by kernel_rfl) ?_
   refine z8 1 ⟨[(4, (vI (-1)))], []⟩ (by kernel_rfl) (fun τ hτ => ?_)
   refine th_ret ?_
   obtain rfl := Option.some.inj h
   exact rk_ret hτ [(4, (vI (-1)))] (here (by kernel_rfl)) (by kernel_rfl)
 ·replace h := iteF hb h
  refine z4 ⟨[(0, (vI x0)), (1, (vI y)), (6, (vB r4))], []⟩ (by kernel_rfl) ?_
  refine sem_seq (by kernel_rfl) ?_
  refine z3 1 ⟨[(0, (vI x0)), (1, (vI y)), (13, (vB r4))], []⟩ (by kernel_rfl) ?_
  refine sem_cond r4 (by kernel_rfl) (by kernel_rfl) (fun hb => ?_) (fun hb => ?_)
  ·replace h := iteT hb h
   refine z8 1 ⟨[(4, (vI 1))], []⟩ (by kernel_rfl) (fun τ hτ => ?_)
   refine th_ret ?_
   obtain rfl := Option.some.inj h
   exact rk_ret hτ [(4, (vI 1))] (here (by kernel_rfl)) (by kernel_rfl)
  ·replace h := iteF hb h
   refine z4 ⟨[(0, (vI x0)), (1, (vI y))], []⟩ (by kernel_rfl) ?_
   refine sem_seq (by kernel_rfl) ?_
   refine z3 3 ⟨[(0, (vI x0)), (1, (vI y)), (16, (vB (decide (x0 < y))))], []⟩ (by kernel_rfl) ?_
   refine sem_cond (decide (x0 < y)) (by kernel_rfl) (by kernel_rfl) (fun hb => ?_) (fun hb => ?_)
   ·replace h := iteT hb h
    refine z8 1 ⟨[(4, (vI (-1)))], []⟩ (by kernel_rfl) (fun τ hτ => ?_)
    refine th_ret ?_
    obtain rfl := Option.some.inj h
    exact rk_ret hτ [(4, (vI (-1)))] (here (by kernel_rfl)) (by kernel_rfl)
   ·replace h := iteF hb h
    refine z4 ⟨[(0, (vI x0)), (1, (vI y))], []⟩ (by kernel_rfl) ?_
    refine sem_seq (by kernel_rfl) ?_
    refine z3 3 ⟨[(19, (vB (decide (x0 > y))))], []⟩ (by kernel_rfl) ?_
    refine sem_cond (decide (x0 > y)) (by kernel_rfl) (by kernel_rfl) (fun hb => ?_) (fun hb => ?_)
    ·replace h := iteT hb h
     refine z8 1 ⟨[(4, (vI 1))], []⟩ (by kernel_rfl) (fun τ hτ => ?_)
     refine th_ret ?_
     obtain rfl := Option.some.inj h
     exact rk_ret hτ [(4, (vI 1))] (here (by kernel_rfl)) (by kernel_rfl)
    ·replace h := iteF hb h
     refine z4 ⟨[], []⟩ (by kernel_rfl) ?_
     refine z8 1 ⟨[(4, (vI 0))], []⟩ (by kernel_rfl) (fun τ hτ => ?_)
     obtain rfl := Option.some.inj h
     exact rk_ret hτ [(4, (vI 0))] (here (by kernel_rfl)) (by kernel_rfl)
theorem W.slices_insertionSortCmpFunc_int__cmp_Compare_int_ok {a : Int} {b : Int} {h0 : (List Int)} {r : (List Int)} (h : slices_insertionSortCmpFunc_int__cmp_Compare_int a b h0 = some r) : PC G.P 136 [(.row (.top 1000000) 3), (vI a), (vI b), (.fn 112 [])] [(1000000, .row 3 [] (List.map cI h0))] (.tup []) [(1000000, .row 3 [] (List.map cI r))] := by
 refine pc_of G (fn := Try.f136) Try.func136 (by kernel_rfl) (by kernel_rfl) (by kernel_rfl) (by kernel_rfl) (by kernel_rfl) ?_
 refine sem_set ⟨[(0, (.row (.top 1000000) 3)), (1, (vI a)), (2, (vI b)), (3, (.fn 112 []))], [(1000000, .row 3 [] (List.map cI h0))]⟩ (by kernel_rfl) ?_
 refine z3 3 ⟨[(0, (.row (.top 1000000) 3)), (1, (vI a)), (2, (vI b)), (3, (.fn 112 [])), (8, (vI (iadd a 1)))], [(1000000, .row 3 [] (List.map cI h0))]⟩ (by kernel_rfl) ?_
 refine sem_block (by kernel_rfl) ?_
 obtain ⟨x813, hx813, h⟩ := bindS h
 refine sem_loopS (fun (s272 : Int × (List Int)) => ⟨[(0, (.row (.top 1000000) 3)), (1, (vI a)), (2, (vI b)), (3, (.fn 112 [])), (8, (vI s272.1))], [(1000000, .row 3 [] (List.map cI s272.2))]⟩) (fun (x813 : (List Int)) => (.exit 0, ⟨[], [(1000000, .row 3 [] (List.map cI x813))]⟩)) (slices_insertionSortCmpFunc_int__cmp_Compare_int_l2 a b) ((iadd a 1), h0) x813 (by kernel_rfl) (here (by kernel_rfl)) hx813 ?_ ?_ ?_
 ·intro s272 r h
  refine sem_seq (by kernel_rfl) ?_
  refine z3 3 ⟨[(0, (.row (.top 1000000) 3)), (1, (vI a)), (2, (vI b)), (3, (.fn 112 [])), (8, (vI s272.1)), (14, (vB (decide (s272.1 < b))))], [(1000000, .row 3 [] (List.map cI s272.2))]⟩ (by kernel_rfl) ?_
  refine sem_cond (decide (s272.1 < b)) (by kernel_rfl) (by kernel_rfl) (fun hb => ?_) (fun hb => ?_)
  ·replace h := iteT hb h
   refine z4 ⟨[(0, (.row (.top 1000000) 3)), (1, (vI a)), (2, (vI b)), (3, (.fn 112 [])), (8, (vI s272.1))], [(1000000, .row 3 [] (List.map cI s272.2))]⟩ (by kernel_rfl) ?_
   refine sem_seq (by kernel_rfl) ?_
   refine sem_block (by kernel_rfl) ?_
   refine z3 2 ⟨[(0, (.row (.top 1000000) 3)), (1, (vI a)), (2, (vI b)), (3, (.fn 112 [])), (8, (vI s272.1)), (9, (vI s272.1))], [(1000000, .row 3 [] (List.map cI s272.2))]⟩ (by kernel_rfl) ?_
   refine sem_block (by kernel_rfl) ?_
   obtain ⟨x812, hx812, h⟩ := bindS h
   refine sem_loopS (fun (s723 : Int × (List Int)) => ⟨[(0, (.row (.top 1000000) 3)), (1, (vI a)), (2, (vI b)), (3, (.fn 112 [])), (8, (vI s272.1)), (9, (vI s723.1))], [(1000000, .row 3 [] (List.map cI s723.2))]⟩) (fun (x812 : (List Int)) => (.exit 2, ⟨[(0, (.row (.top 1000000) 3)), (1, (vI a)), (2, (vI b)), (3, (.fn 112 [])), (8, (vI s272.1))], [(1000000, .row 3 [] (List.map cI x812))]⟩)) (slices_insertionSortCmpFunc_int__cmp_Compare_int_l1 a) (s272.1, s272.2) x812 (by kernel_rfl) (here (by kernel_rfl)) hx812 ?_ ?_ ?_
   ·intro s723 r h
    refine sem_seq (by kernel_rfl) ?_
    refine sem_seq (by kernel_rfl) ?_
    obtain ⟨j784, hj784, h⟩ := bindS h
    refine sem_drawP ⟨[(0, (.row (.top 1000000) 3)), (1, (vI a)), (2, (vI b)), (3, (.fn 112 [])), (8, (vI s272.1)), (9, (vI s723.1)), (34, (vB j784))], [(1000000, .row 3 [] (List.map cI s723.2))]⟩ [] [] [] [] [] 14 (by kernel_rfl) (by kernel_rfl) (by kernel_rfl) ?_ (fun τ hτ => ?_)
    ·replace h := hj784
     refine evd_run 4 (by kernel_rfl) ?_
     refine evd_split (decide (s723.1 > a)) (fun b0 => ⟨[(21, (vB b0)), (20, (vB b0)), (19, (vI a)), (18, (vI s723.1)), (0, (.row (.top 1000000) 3)), (1, (vI a)), (2, (vI b)), (3, (.fn 112 [])), (8, (vI s272.1)), (9, (vI s723.1))], [(1000000, .row 3 [] (List.map cI s723.2))]⟩) (by kernel_rfl) (fun hb => ?_) (fun hb => ?_)
     ·replace h := iteT hb h
      refine evd_run 3 (by kernel_rfl) ?_
      obtain ⟨x785, hx785, h⟩ := bindS h
      refine evd_val (by kernel_rfl) (st_idxO (c := cI) (l := s723.2) (i := s723.1) (kd := .i64) (kk := (.top 1000000)) (e := 3) (sz := 1) (by kernel_rfl) (by kernel_rfl) hx785 rfl) (by kernel_rfl) (by kernel_rfl) ?_
      refine evd_val (by kernel_rfl) (st_ldO (c := cI) (l := s723.2) (i := (Int.toNat s723.1)) (v := (vI x785)) (agg := false) (sz := 1) (kk := (.top 1000000)) (e := 3) (off := 0) (J := []) (by kernel_rfl) (by kernel_rfl) (by kernel_rfl) ((idxS hx785).2) (by kernel_rfl)) (by kernel_rfl) (by kernel_rfl) ?_
      refine evd_run 3 (by kernel_rfl) ?_
      obtain ⟨x786, hx786, h⟩ := bindS h
      refine evd_val (by kernel_rfl) (st_idxO (c := cI) (l := s723.2) (i := (isub s723.1 1)) (kd := .i64) (kk := (.top 1000000)) (e := 3) (sz := 1) (by kernel_rfl) (by kernel_rfl) hx786 rfl) (by kernel_rfl) (by kernel_rfl) ?_
      refine evd_val (by kernel_rfl) (st_ldO (c := cI) (l := s723.2) (i := (Int.toNat (isub s723.1 1))) (v := (vI x786)) (agg := false) (sz := 1) (kk := (.top 1000000)) (e := 3) (off := 0) (J := []) (by kernel_rfl) (by kernel_rfl) (by kernel_rfl) ((idxS hx786).2) (by kernel_rfl)) (by kernel_rfl) (by kernel_rfl) ?_
      refine evd_end (by kernel_rfl) ?_
      obtain ⟨r787, hr787, h⟩ := bindS h
      refine evo_callP [] (by kernel_rfl) (W.cmp_Compare_int_ok hr787) (by kernel_rfl) (.inl rfl) (by kernel_rfl) ?_
      refine evo_run 2 (by kernel_rfl) ?_
      refine evo_endS (by kernel_rfl) (fun τ hτ => ?_)
      obtain rfl := Option.some.inj h
      exact leafC hτ (here (by kernel_rfl))
     ·replace h := iteF hb h
      refine evd_run 10 (by kernel_rfl) ?_
      refine evd_end (by kernel_rfl) ?_
      refine evo_run 3 (by kernel_rfl) ?_
      refine evo_endS (by kernel_rfl) (fun τ hτ => ?_)
      obtain rfl := Option.some.inj h
      exact leafC hτ (here (by kernel_rfl))
    refine th_normalS hτ ⟨[(0, (.row (.top 1000000) 3)), (1, (vI a)), (2, (vI b)), (3, (.fn 112 [])), (8, (vI s272.1)), (9, (vI s723.1)), (34, (vB j784))], [(1000000, .row 3 [] (List.map cI s723.2))]⟩ (here (by kernel_rfl)) ?_
    refine sem_cond j784 (by kernel_rfl) (by kernel_rfl) (fun hb => ?_) (fun hb => ?_)
    ·replace h := iteT hb h
     refine z4 ⟨[(0, (.row (.top 1000000) 3)), (1, (vI a)), (2, (vI b)), (3, (.fn 112 [])), (8, (vI s272.1)), (9, (vI s723.1))], [(1000000, .row 3 [] (List.map cI s723.2))]⟩ (by kernel_rfl) ?_
     refine sem_seq (by kernel_rfl) ?_
     refine sem_block (by kernel_rfl) ?_
     refine sem_drawN [(15, [1000000])] [] [] [(2, [1000000]), (3, [1000000]), (4, [1000000])] [] 16 (by kernel_rfl) (by kernel_rfl) (by kernel_rfl) ?_
     refine evd_run 8 (by kernel_rfl) ?_
     obtain ⟨x808, hx808, h⟩ := bindS h
     refine evd_val (by kernel_rfl) (st_idxO (c := cI) (l := s723.2) (i := (isub s723.1 1)) (kd := .i64) (kk := (.top 1000000)) (e := 3) (sz := 1) (by kernel_rfl) (by kernel_rfl) hx808 rfl) (by kernel_rfl) (by kernel_rfl) ?_
     refine evd_val (by kernel_rfl) (st_ldO (c := cI) (l := s723.2) (i := (Int.toNat (isub s723.1 1))) (v := (vI x808)) (agg := false) (sz := 1) (kk := (.top 1000000)) (e := 3) (off := 0) (J := []) (by kernel_rfl) (by kernel_rfl) (by kernel_rfl) ((idxS hx808).2) (by kernel_rfl)) (by kernel_rfl) (by kernel_rfl) ?_
     refine evd_run 2 (by kernel_rfl) ?_
     obtain ⟨x809, hx809, h⟩ := bindS h
     refine evd_val (by kernel_rfl) (st_idxO (c := cI) (l := s723.2) (i := s723.1) (kd := .i64) (kk := (.top 1000000)) (e := 3) (sz := 1) (by kernel_rfl) (by kernel_rfl) hx809 rfl) (by kernel_rfl) (by kernel_rfl) ?_
     refine evd_val (by kernel_rfl) (st_ldO (c := cI) (l := s723.2) (i := (Int.toNat s723.1)) (v := (vI x809)) (agg := false) (sz := 1) (kk := (.top 1000000)) (e := 3) (off := 0) (J := []) (by kernel_rfl) (by kernel_rfl) (by kernel_rfl) ((idxS hx809).2) (by kernel_rfl)) (by kernel_rfl) (by kernel_rfl) ?_
     obtain ⟨x810, hx810, h⟩ := bindS h
     refine evd_val (by kernel_rfl) (st_idxO (c := cI) (l := s723.2) (i := s723.1) (kd := .i64) (kk := (.top 1000000)) (e := 3) (sz := 1) (by kernel_rfl) (by kernel_rfl) hx810 rfl) (by kernel_rfl) (by kernel_rfl) ?_
     refine evd_set (by kernel_rfl) (st_stO (c := cI) (l := s723.2) (i := (Int.toNat s723.1)) (x := x810) (x' := x808) (v := (vI x808)) (agg := false) (sz := 1) (kk := (.top 1000000)) (e := 3) (off := 0) (J := []) (o := .row 3 [] (List.map cI (List.set s723.2 (Int.toNat s723.1) x808))) (by kernel_rfl) (by kernel_rfl) (by kernel_rfl) ((idxS hx810).2) (by kernel_rfl) (by kernel_rfl) (by kernel_rfl)) (by kernel_rfl) (by kernel_rfl) (by kernel_rfl) ?_
     refine evd_end (by kernel_rfl) ?_
     obtain ⟨x811, hx811, h⟩ := bindS h
     refine evo_op (st_idxO (c := cI) (l := (List.set s723.2 (Int.toNat s723.1) x808)) (i := (isub s723.1 1)) (kd := .i64) (kk := (.top 1000000)) (e := 3) (sz := 1) (by kernel_rfl) (by kernel_rfl) hx811 rfl) ?_
     refine evo_op (st_stO (c := cI) (l := (List.set s723.2 (Int.toNat s723.1) x808)) (i := (Int.toNat (isub s723.1 1))) (x := x811) (x' := x809) (v := (vI x809)) (agg := false) (sz := 1) (kk := (.top 1000000)) (e := 3) (off := 0) (J := []) (o := .row 3 [] (List.map cI (List.set (List.set s723.2 (Int.toNat s723.1) x808) (Int.toNat (isub s723.1 1)) x809))) (by kernel_rfl) (by kernel_rfl) (by kernel_rfl) ((idxS hx811).2) (by kernel_rfl) (by kernel_rfl) (by kernel_rfl)) ?_
     refine evo_endS (by kernel_rfl) (fun τ hτ => ?_)
     refine bl_normal ?_
     refine th_normalS hτ ⟨[(0, (.row (.top 1000000) 3)), (1, (vI a)), (2, (vI b)), (3, (.fn 112 [])), (8, (vI s272.1)), (9, (vI s723.1))], [(1000000, .row 3 [] (List.map cI (List.set (List.set s723.2 (Int.toNat s723.1) x808) (Int.toNat (isub s723.1 1)) x809)))]⟩ (here (by kernel_rfl)) ?_
     refine sem_region (by kernel_rfl) ?_
     refine z6 3 (by kernel_rfl) (fun τ hτ => ?_)
     obtain rfl := Option.some.inj h
     exact lk_nextS hτ (here (by kernel_rfl))
    ·replace h := iteF hb h
     refine sem_exitS 2 (by kernel_rfl) rfl (fun τ hτ => ?_)
     refine th_exit ?_
     obtain rfl := Option.some.inj h
     exact lk_outS hτ rfl (here (by kernel_rfl))
   ·intro x
    rfl
   ·intro τ hτ
    refine bl_hit (by kernel_rfl) ?_
    refine bl_normal ?_
    refine th_normalS hτ ⟨[(0, (.row (.top 1000000) 3)), (1, (vI a)), (2, (vI b)), (3, (.fn 112 [])), (8, (vI s272.1))], [(1000000, .row 3 [] (List.map cI x812))]⟩ (here (by kernel_rfl)) ?_
    refine sem_region (by kernel_rfl) ?_
    refine z6 3 (by kernel_rfl) (fun τ hτ => ?_)
    obtain rfl := Option.some.inj h
    exact lk_nextS hτ (here (by kernel_rfl))
  ·replace h := iteF hb h
   refine sem_exitS 0 (by kernel_rfl) rfl (fun τ hτ => ?_)
   refine th_exit ?_
   obtain rfl := Option.some.inj h
   exact lk_outS hτ rfl (here (by kernel_rfl))
 ·intro x
  rfl
 ·intro τ hτ
  refine bl_hit (by kernel_rfl) ?_
  obtain rfl := Option.some.inj h
  exact rk_normal hτ [] (here (by kernel_rfl)) (by kernel_rfl)
theorem W.slices_siftDownCmpFunc_int__cmp_Compare_int_ok {lo : Int} {hi : Int} {first : Int} {h0 : (List Int)} {r : (List Int)} (h : slices_siftDownCmpFunc_int__cmp_Compare_int lo hi first h0 = some r) : PC G.P 149 [(.row (.top 1000000) 3), (vI lo), (vI hi), (vI first), (.fn 112 [])] [(1000000, .row 3 [] (List.map cI h0))] (.tup []) [(1000000, .row 3 [] (List.map cI r))] := by
 refine pc_of G (fn := Try.f149) Try.func149 (by kernel_rfl) (by kernel_rfl) (by kernel_rfl) (by kernel_rfl) (by kernel_rfl) ?_
 refine sem_set ⟨[(0, (.row (.top 1000000) 3)), (1, (vI lo)), (2, (vI hi)), (3, (vI first)), (4, (.fn 112 []))], [(1000000, .row 3 [] (List.map cI h0))]⟩ (by kernel_rfl) ?_
 refine z3 2 ⟨[(0, (.row (.top 1000000) 3)), (2, (vI hi)), (3, (vI first)), (4, (.fn 112 [])), (10, (vI lo))], [(1000000, .row 3 [] (List.map cI h0))]⟩ (by kernel_rfl) ?_
 refine sem_block (by kernel_rfl) ?_
 obtain ⟨x156, hx156, h⟩ := bindS h
 refine sem_loopS (fun (s53 : Int × (List Int)) => ⟨[(0, (.row (.top 1000000) 3)), (2, (vI hi)), (3, (vI first)), (4, (.fn 112 [])), (10, (vI s53.1))], [(1000000, .row 3 [] (List.map cI s53.2))]⟩) (fun (x156 : (List Int) ⊕ (List Int)) => match x156 with | .inl j157 => (.exit 0, ⟨[], [(1000000, .row 3 [] (List.map cI j157))]⟩) | .inr j158 => (.ret, ⟨[], [(1000000, .row 3 [] (List.map cI j158))]⟩)) (slices_siftDownCmpFunc_int__cmp_Compare_int_l2 hi first) (lo, h0) x156 (by kernel_rfl) (here (by kernel_rfl)) hx156 ?_ ?_ ?_
 ·intro s53 r h
  refine sem_block (by kernel_rfl) ?_
  refine z3 4 ⟨[(0, (.row (.top 1000000) 3)), (2, (vI hi)), (3, (vI first)), (4, (.fn 112 [])), (10, (vI s53.1)), (11, (vI (iadd (imul 2 s53.1) 1)))], [(1000000, .row 3 [] (List.map cI s53.2))]⟩ (by kernel_rfl) ?_
  refine sem_seq (by kernel_rfl) ?_
  refine z3 3 ⟨[(0, (.row (.top 1000000) 3)), (2, (vI hi)), (3, (vI first)), (4, (.fn 112 [])), (10, (vI s53.1)), (11, (vI (iadd (imul 2 s53.1) 1))), (18, (vB (decide ((iadd (imul 2 s53.1) 1) ≥ hi))))], [(1000000, .row 3 [] (List.map cI s53.2))]⟩ (by kernel_rfl) ?_
  refine sem_cond (decide ((iadd (imul 2 s53.1) 1) ≥ hi)) (by kernel_rfl) (by kernel_rfl) (fun hb => ?_) (fun hb => ?_)
  ·replace h := iteT hb h
   refine sem_exitS 0 (by kernel_rfl) rfl (fun τ hτ => ?_)
   refine th_exit ?_
   refine bl_miss (by kernel_rfl) ?_
   obtain rfl := Option.some.inj h
   exact lk_outS hτ rfl (here (by kernel_rfl))
  ·replace h := iteF hb h
   refine z4 ⟨[(0, (.row (.top 1000000) 3)), (2, (vI hi)), (3, (vI first)), (4, (.fn 112 [])), (10, (vI s53.1)), (11, (vI (iadd (imul 2 s53.1) 1)))], [(1000000, .row 3 [] (List.map cI s53.2))]⟩ (by kernel_rfl) ?_
   refine sem_seqJ (fun (j115 : Int) => ⟨[(0, (.row (.top 1000000) 3)), (2, (vI hi)), (3, (vI first)), (4, (.fn 112 [])), (10, (vI s53.1)), (11, (vI j115))], [(1000000, .row 3 [] (List.map cI s53.2))]⟩) (slices_siftDownCmpFunc_int__cmp_Compare_int_k1 first s53) r (by kernel_rfl) (fun j115 h => ?_) ?_
   ·refine sem_seq (by kernel_rfl) ?_
    refine sem_seq (by kernel_rfl) ?_
    refine sem_drawN [] [] [] [] [] 13 (by kernel_rfl) (by kernel_rfl) (by kernel_rfl) ?_
    refine evd_run 5 (by kernel_rfl) ?_
    obtain ⟨x131, hx131, h⟩ := bindS h
    refine evd_val (by kernel_rfl) (st_idxO (c := cI) (l := s53.2) (i := (iadd first s53.1)) (kd := .i64) (kk := (.top 1000000)) (e := 3) (sz := 1) (by kernel_rfl) (by kernel_rfl) hx131 rfl) (by kernel_rfl) (by kernel_rfl) ?_
    refine evd_val (by kernel_rfl) (st_ldO (c := cI) (l := s53.2) (i := (Int.toNat (iadd first s53.1))) (v := (vI x131)) (agg := false) (sz := 1) (kk := (.top 1000000)) (e := 3) (off := 0) (J := []) (by kernel_rfl) (by kernel_rfl) (by kernel_rfl) ((idxS hx131).2) (by kernel_rfl)) (by kernel_rfl) (by kernel_rfl) ?_
    refine evd_run 4 (by kernel_rfl) ?_
    obtain ⟨x132, hx132, h⟩ := bindS h
    refine evd_val (by kernel_rfl) (st_idxO (c := cI) (l := s53.2) (i := (iadd first j115)) (kd := .i64) (kk := (.top 1000000)) (e := 3) (sz := 1) (by kernel_rfl) (by kernel_rfl) hx132 rfl) (by kernel_rfl) (by kernel_rfl) ?_
    refine evd_val (by kernel_rfl) (st_ldO (c := cI) (l := s53.2) (i := (Int.toNat (iadd first j115))) (v := (vI x132)) (agg := false) (sz := 1) (kk := (.top 1000000)) (e := 3) (off := 0) (J := []) (by kernel_rfl) (by kernel_rfl) (by kernel_rfl) ((idxS hx132).2) (by kernel_rfl)) (by kernel_rfl) (by kernel_rfl) ?_
    refine evd_end (by kernel_rfl) ?_
    obtain ⟨r133, hr133, h⟩ := bindS h
    refine evo_callP [] (by kernel_rfl) (W.cmp_Compare_int_ok hr133) (by kernel_rfl) (.inl rfl) (by kernel_rfl) ?_
    refine evo_run 2 (by kernel_rfl) ?_
    refine evo_endS (by kernel_rfl) (fun τ hτ => ?_)
    refine th_normalS hτ ⟨[(0, (.row (.top 1000000) 3)), (2, (vI hi)), (3, (vI first)), (4, (.fn 112 [])), (10, (vI s53.1)), (11, (vI j115)), (58, (vB (!(decide (r133 < 0)))))], [(1000000, .row 3 [] (List.map cI s53.2))]⟩ (here (by kernel_rfl)) ?_
    refine sem_cond (!(decide (r133 < 0))) (by kernel_rfl) (by kernel_rfl) (fun hb => ?_) (fun hb => ?_)
    ·replace h := iteT hb h
     refine sem_retS (by kernel_rfl) (fun τ hτ => ?_)
     refine th_ret ?_
     refine bl_ret ?_
     obtain rfl := Option.some.inj h
     exact lk_outS hτ rfl (here (by kernel_rfl))
    ·replace h := iteF hb h
     refine z4 ⟨[(0, (.row (.top 1000000) 3)), (2, (vI hi)), (3, (vI first)), (4, (.fn 112 [])), (10, (vI s53.1)), (11, (vI j115))], [(1000000, .row 3 [] (List.map cI s53.2))]⟩ (by kernel_rfl) ?_
     refine sem_seq (by kernel_rfl) ?_
     refine sem_drawN [(21, [1000000])] [] [] [(4, [1000000]), (5, [1000000]), (6, [1000000]), (7, [1000000])] [] 22 (by kernel_rfl) (by kernel_rfl) (by kernel_rfl) ?_
     refine evd_run 12 (by kernel_rfl) ?_
     obtain ⟨x142, hx142, h⟩ := bindS h
     refine evd_val (by kernel_rfl) (st_idxO (c := cI) (l := s53.2) (i := (iadd first j115)) (kd := .i64) (kk := (.top 1000000)) (e := 3) (sz := 1) (by kernel_rfl) (by kernel_rfl) hx142 rfl) (by kernel_rfl) (by kernel_rfl) ?_
     refine evd_val (by kernel_rfl) (st_ldO (c := cI) (l := s53.2) (i := (Int.toNat (iadd first j115))) (v := (vI x142)) (agg := false) (sz := 1) (kk := (.top 1000000)) (e := 3) (off := 0) (J := []) (by kernel_rfl) (by kernel_rfl) (by kernel_rfl) ((idxS hx142).2) (by kernel_rfl)) (by kernel_rfl) (by kernel_rfl) ?_
     refine evd_run 4 (by kernel_rfl) ?_
     obtain ⟨x143, hx143, h⟩ := bindS h
     refine evd_val (by kernel_rfl) (st_idxO (c := cI) (l := s53.2) (i := (iadd first s53.1)) (kd := .i64) (kk := (.top 1000000)) (e := 3) (sz := 1) (by kernel_rfl) (by kernel_rfl) hx143 rfl) (by kernel_rfl) (by kernel_rfl) ?_
     refine evd_val (by kernel_rfl) (st_ldO (c := cI) (l := s53.2) (i := (Int.toNat (iadd first s53.1))) (v := (vI x143)) (agg := false) (sz := 1) (kk := (.top 1000000)) (e := 3) (off := 0) (J := []) (by kernel_rfl) (by kernel_rfl) (by kernel_rfl) ((idxS hx143).2) (by kernel_rfl)) (by kernel_rfl) (by kernel_rfl) ?_
     obtain ⟨x144, hx144, h⟩ := bindS h
     refine evd_val (by kernel_rfl) (st_idxO (c := cI) (l := s53.2) (i := (iadd first s53.1)) (kd := .i64) (kk := (.top 1000000)) (e := 3) (sz := 1) (by kernel_rfl) (by kernel_rfl) hx144 rfl) (by kernel_rfl) (by kernel_rfl) ?_
     refine evd_set (by kernel_rfl) (st_stO (c := cI) (l := s53.2) (i := (Int.toNat (iadd first s53.1))) (x := x144) (x' := x142) (v := (vI x142)) (agg := false) (sz := 1) (kk := (.top 1000000)) (e := 3) (off := 0) (J := []) (o := .row 3 [] (List.map cI (List.set s53.2 (Int.toNat (iadd first s53.1)) x142))) (by kernel_rfl) (by kernel_rfl) (by kernel_rfl) ((idxS hx144).2) (by kernel_rfl) (by kernel_rfl) (by kernel_rfl)) (by kernel_rfl) (by kernel_rfl) (by kernel_rfl) ?_
     refine evd_end (by kernel_rfl) ?_
     obtain ⟨x145, hx145, h⟩ := bindS h
     refine evo_op (st_idxO (c := cI) (l := (List.set s53.2 (Int.toNat (iadd first s53.1)) x142)) (i := (iadd first j115)) (kd := .i64) (kk := (.top 1000000)) (e := 3) (sz := 1) (by kernel_rfl) (by kernel_rfl) hx145 rfl) ?_
     refine evo_op (st_stO (c := cI) (l := (List.set s53.2 (Int.toNat (iadd first s53.1)) x142)) (i := (Int.toNat (iadd first j115))) (x := x145) (x' := x143) (v := (vI x143)) (agg := false) (sz := 1) (kk := (.top 1000000)) (e := 3) (off := 0) (J := []) (o := .row 3 [] (List.map cI (List.set (List.set s53.2 (Int.toNat (iadd first s53.1)) x142) (Int.toNat (iadd first j115)) x143))) (by kernel_rfl) (by kernel_rfl) (by kernel_rfl) ((idxS hx145).2) (by kernel_rfl) (by kernel_rfl) (by kernel_rfl)) ?_
     refine evo_endS (by kernel_rfl) (fun τ hτ => ?_)
     refine th_normalS hτ ⟨[(0, (.row (.top 1000000) 3)), (2, (vI hi)), (3, (vI first)), (4, (.fn 112 [])), (11, (vI j115))], [(1000000, .row 3 [] (List.map cI (List.set (List.set s53.2 (Int.toNat (iadd first s53.1)) x142) (Int.toNat (iadd first j115)) x143)))]⟩ (here (by kernel_rfl)) ?_
     refine sem_region (by kernel_rfl) ?_
     refine z6 2 (by kernel_rfl) (fun τ hτ => ?_)
     refine bl_normal ?_
     obtain rfl := Option.some.inj h
     exact lk_nextS hτ (here (by kernel_rfl))
   refine sem_seq (by kernel_rfl) ?_
   obtain ⟨j152, hj152, h⟩ := bindS h
   refine sem_drawP ⟨[(0, (.row (.top 1000000) 3)), (2, (vI hi)), (3, (vI first)), (4, (.fn 112 [])), (10, (vI s53.1)), (11, (vI (iadd (imul 2 s53.1) 1))), (40, (vB j152))], [(1000000, .row 3 [] (List.map cI s53.2))]⟩ [] [] [] [] [] 19 (by kernel_rfl) (by kernel_rfl) (by kernel_rfl) ?_ (fun τ hτ => ?_)
   ·replace h := hj152
    refine evd_run 5 (by kernel_rfl) ?_
    refine evd_split (decide ((iadd (iadd (imul 2 s53.1) 1) 1) < hi)) (fun b0 => ⟨[(23, (vB b0)), (22, (vB b0)), (21, (vI hi)), (20, (vI (iadd (iadd (imul 2 s53.1) 1) 1))), (19, (vI (iadd (imul 2 s53.1) 1))), (0, (.row (.top 1000000) 3)), (2, (vI hi)), (3, (vI first)), (4, (.fn 112 [])), (10, (vI s53.1)), (11, (vI (iadd (imul 2 s53.1) 1)))], [(1000000, .row 3 [] (List.map cI s53.2))]⟩) (by kernel_rfl) (fun hb => ?_) (fun hb => ?_)
    ·replace h := iteT hb h
     refine evd_run 5 (by kernel_rfl) ?_
     obtain ⟨x153, hx153, h⟩ := bindS h
     refine evd_val (by kernel_rfl) (st_idxO (c := cI) (l := s53.2) (i := (iadd first (iadd (imul 2 s53.1) 1))) (kd := .i64) (kk := (.top 1000000)) (e := 3) (sz := 1) (by kernel_rfl) (by kernel_rfl) hx153 rfl) (by kernel_rfl) (by kernel_rfl) ?_
     refine evd_val (by kernel_rfl) (st_ldO (c := cI) (l := s53.2) (i := (Int.toNat (iadd first (iadd (imul 2 s53.1) 1)))) (v := (vI x153)) (agg := false) (sz := 1) (kk := (.top 1000000)) (e := 3) (off := 0) (J := []) (by kernel_rfl) (by kernel_rfl) (by kernel_rfl) ((idxS hx153).2) (by kernel_rfl)) (by kernel_rfl) (by kernel_rfl) ?_
     refine evd_run 5 (by kernel_rfl) ?_
     obtain ⟨x154, hx154, h⟩ := bindS h
     refine evd_val (by kernel_rfl) (st_idxO (c := cI) (l := s53.2) (i := (iadd (iadd first (iadd (imul 2 s53.1) 1)) 1)) (kd := .i64) (kk := (.top 1000000)) (e := 3) (sz := 1) (by kernel_rfl) (by kernel_rfl) hx154 rfl) (by kernel_rfl) (by kernel_rfl) ?_
     refine evd_val (by kernel_rfl) (st_ldO (c := cI) (l := s53.2) (i := (Int.toNat (iadd (iadd first (iadd (imul 2 s53.1) 1)) 1))) (v := (vI x154)) (agg := false) (sz := 1) (kk := (.top 1000000)) (e := 3) (off := 0) (J := []) (by kernel_rfl) (by kernel_rfl) (by kernel_rfl) ((idxS hx154).2) (by kernel_rfl)) (by kernel_rfl) (by kernel_rfl) ?_
     refine evd_end (by kernel_rfl) ?_
     obtain ⟨r155, hr155, h⟩ := bindS h
     refine evo_callP [] (by kernel_rfl) (W.cmp_Compare_int_ok hr155) (by kernel_rfl) (.inl rfl) (by kernel_rfl) ?_
     refine evo_run 2 (by kernel_rfl) ?_
     refine evo_endS (by kernel_rfl) (fun τ hτ => ?_)
     obtain rfl := Option.some.inj h
     exact leafC hτ (here (by kernel_rfl))
    ·replace h := iteF hb h
     refine evd_run 14 (by kernel_rfl) ?_
     refine evd_end (by kernel_rfl) ?_
     refine evo_run 3 (by kernel_rfl) ?_
     refine evo_endS (by kernel_rfl) (fun τ hτ => ?_)
     obtain rfl := Option.some.inj h
     exact leafC hτ (here (by kernel_rfl))
   refine th_normalS hτ ⟨[(0, (.row (.top 1000000) 3)), (2, (vI hi)), (3, (vI first)), (4, (.fn 112 [])), (10, (vI s53.1)), (11, (vI (iadd (imul 2 s53.1) 1))), (40, (vB j152))], [(1000000, .row 3 [] (List.map cI s53.2))]⟩ (here (by kernel_rfl)) ?_
   refine sem_cond j152 (by kernel_rfl) (by kernel_rfl) (fun hb => ?_) (fun hb => ?_)
   ·replace h := iteT hb h
    refine sem_region (by kernel_rfl) ?_
    refine z6 3 (by kernel_rfl) (fun τ hτ => ?_)
    exact jk_normal (iadd (iadd (imul 2 s53.1) 1) 1) h hτ (here (by kernel_rfl))
   ·replace h := iteF hb h
    refine sem_skipS (by kernel_rfl) (fun τ hτ => ?_)
    exact jk_normal (iadd (imul 2 s53.1) 1) h hτ (here (by kernel_rfl))
 ·intro x
  rcases x with _ | _ <;> rfl
 ·intro τ hτ
  rcases x156 with j157 | j158
  ·refine bl_hit (by kernel_rfl) ?_
   obtain rfl := Option.some.inj h
   exact rk_normal hτ [] (here (by kernel_rfl)) (by kernel_rfl)
  ·refine bl_ret ?_
   obtain rfl := Option.some.inj h
   exact rk_ret hτ [] (here (by kernel_rfl)) (by kernel_rfl)
theorem W.slices_heapSortCmpFunc_int__cmp_Compare_int_ok {a : Int} {b : Int} {h0 : (List Int)} {r : (List Int)} (h : slices_heapSortCmpFunc_int__cmp_Compare_int a b h0 = some r) : PC G.P 137 [(.row (.top 1000000) 3), (vI a), (vI b), (.fn 112 [])] [(1000000, .row 3 [] (List.map cI h0))] (.tup []) [(1000000, .row 3 [] (List.map cI r))] := by
 refine pc_of G (fn := Try.f137) Try.func137 (by kernel_rfl) (by kernel_rfl) (by kernel_rfl) (by kernel_rfl) (by kernel_rfl) ?_
 refine sem_set ⟨[(0, (.row (.top 1000000) 3)), (1, (vI a)), (2, (vI b)), (3, (.fn 112 []))], [(1000000, .row 3 [] (List.map cI h0))]⟩ (by kernel_rfl) ?_
 refine z3 2 ⟨[(0, (.row (.top 1000000) 3)), (1, (vI a)), (2, (vI b)), (3, (.fn 112 [])), (8, (vI a))], [(1000000, .row 3 [] (List.map cI h0))]⟩ (by kernel_rfl) ?_
 refine z3 1 ⟨[(0, (.row (.top 1000000) 3)), (1, (vI a)), (2, (vI b)), (3, (.fn 112 [])), (8, (vI a)), (9, (vI 0))], [(1000000, .row 3 [] (List.map cI h0))]⟩ (by kernel_rfl) ?_
 refine z3 4 ⟨[(0, (.row (.top 1000000) 3)), (3, (.fn 112 [])), (8, (vI a)), (9, (vI 0)), (10, (vI (isub b a)))], [(1000000, .row 3 [] (List.map cI h0))]⟩ (by kernel_rfl) ?_
 refine sem_seq (by kernel_rfl) ?_
 refine z3 4 ⟨[(0, (.row (.top 1000000) 3)), (3, (.fn 112 [])), (8, (vI a)), (9, (vI 0)), (10, (vI (isub b a))), (11, (vI (iquo (isub (isub b a) 1) 2)))], [(1000000, .row 3 [] (List.map cI h0))]⟩ (by kernel_rfl) ?_
 refine sem_block (by kernel_rfl) ?_
 obtain ⟨x30, hx30, h⟩ := bindS h
 refine sem_loopS (fun (s21 : Int × (List Int)) => ⟨[(0, (.row (.top 1000000) 3)), (3, (.fn 112 [])), (8, (vI a)), (9, (vI 0)), (10, (vI (isub b a))), (11, (vI s21.1))], [(1000000, .row 3 [] (List.map cI s21.2))]⟩) (fun (x30 : (List Int)) => (.exit 0, ⟨[(0, (.row (.top 1000000) 3)), (3, (.fn 112 [])), (8, (vI a)), (9, (vI 0)), (10, (vI (isub b a)))], [(1000000, .row 3 [] (List.map cI x30))]⟩)) (slices_heapSortCmpFunc_int__cmp_Compare_int_l1 a b) ((iquo (isub (isub b a) 1) 2), h0) x30 (by kernel_rfl) (here (by kernel_rfl)) hx30 ?_ ?_ ?_
 ·intro s21 r h
  refine sem_seq (by kernel_rfl) ?_
  refine z3 2 ⟨[(0, (.row (.top 1000000) 3)), (3, (.fn 112 [])), (8, (vI a)), (9, (vI 0)), (10, (vI (isub b a))), (11, (vI s21.1)), (21, (vB (decide (s21.1 ≥ 0))))], [(1000000, .row 3 [] (List.map cI s21.2))]⟩ (by kernel_rfl) ?_
  refine sem_cond (decide (s21.1 ≥ 0)) (by kernel_rfl) (by kernel_rfl) (fun hb => ?_) (fun hb => ?_)
  ·replace h := iteT hb h
   refine z4 ⟨[(0, (.row (.top 1000000) 3)), (3, (.fn 112 [])), (8, (vI a)), (9, (vI 0)), (10, (vI (isub b a))), (11, (vI s21.1))], [(1000000, .row 3 [] (List.map cI s21.2))]⟩ (by kernel_rfl) ?_
   refine sem_seq (by kernel_rfl) ?_
   refine sem_block (by kernel_rfl) ?_
   refine sem_region (by kernel_rfl) ?_
   refine evs_run 5 (by kernel_rfl) ?_
   obtain ⟨r29, hr29, h⟩ := bindS h
   refine evs_callS [(1000000, 1000000)] [] [] (by kernel_rfl) (W.slices_siftDownCmpFunc_int__cmp_Compare_int_ok hr29) (by kernel_rfl) (by kernel_rfl) (.inl rfl) ?_
   refine evs_endS (by kernel_rfl) (fun τ hτ => ?_)
   refine bl_normal ?_
   refine th_normalS hτ ⟨[(0, (.row (.top 1000000) 3)), (3, (.fn 112 [])), (8, (vI a)), (9, (vI 0)), (10, (vI (isub b a))), (11, (vI s21.1))], [(1000000, .row 3 [] (List.map cI r29))]⟩ (here (by kernel_rfl)) ?_
   refine sem_region (by kernel_rfl) ?_
   refine z6 3 (by kernel_rfl) (fun τ hτ => ?_)
   obtain rfl := Option.some.inj h
   exact lk_nextS hτ (here (by kernel_rfl))
  ·replace h := iteF hb h
   refine sem_exitS 0 (by kernel_rfl) rfl (fun τ hτ => ?_)
   refine th_exit ?_
   obtain rfl := Option.some.inj h
   exact lk_outS hτ rfl (here (by kernel_rfl))
 ·intro x
  rfl
 ·intro τ hτ
  refine bl_hit (by kernel_rfl) ?_
  refine th_normalS hτ ⟨[(0, (.row (.top 1000000) 3)), (3, (.fn 112 [])), (8, (vI a)), (9, (vI 0)), (10, (vI (isub b a)))], [(1000000, .row 3 [] (List.map cI x30))]⟩ (here (by kernel_rfl)) ?_
  refine z3 3 ⟨[(0, (.row (.top 1000000) 3)), (3, (.fn 112 [])), (8, (vI a)), (9, (vI 0)), (12, (vI (isub (isub b a) 1)))], [(1000000, .row 3 [] (List.map cI x30))]⟩ (by kernel_rfl) ?_
  refine sem_block (by kernel_rfl) ?_
  obtain ⟨x117, hx117, h⟩ := bindS h
  refine sem_loopS (fun (s60 : Int × (List Int)) => ⟨[(0, (.row (.top 1000000) 3)), (3, (.fn 112 [])), (8, (vI a)), (9, (vI 0)), (12, (vI s60.1))], [(1000000, .row 3 [] (List.map cI s60.2))]⟩) (fun (x117 : (List Int)) => (.exit 2, ⟨[], [(1000000, .row 3 [] (List.map cI x117))]⟩)) (slices_heapSortCmpFunc_int__cmp_Compare_int_l2 a) ((isub (isub b a) 1), x30) x117 (by kernel_rfl) (here (by kernel_rfl)) hx117 ?_ ?_ ?_
  ·intro s60 r h
   refine sem_seq (by kernel_rfl) ?_
   refine z3 2 ⟨[(0, (.row (.top 1000000) 3)), (3, (.fn 112 [])), (8, (vI a)), (9, (vI 0)), (12, (vI s60.1)), (33, (vB (decide (s60.1 ≥ 0))))], [(1000000, .row 3 [] (List.map cI s60.2))]⟩ (by kernel_rfl) ?_
   refine sem_cond (decide (s60.1 ≥ 0)) (by kernel_rfl) (by kernel_rfl) (fun hb => ?_) (fun hb => ?_)
   ·replace h := iteT hb h
    refine z4 ⟨[(0, (.row (.top 1000000) 3)), (3, (.fn 112 [])), (8, (vI a)), (9, (vI 0)), (12, (vI s60.1))], [(1000000, .row 3 [] (List.map cI s60.2))]⟩ (by kernel_rfl) ?_
    refine sem_seq (by kernel_rfl) ?_
    refine sem_block (by kernel_rfl) ?_
    refine sem_seq (by kernel_rfl) ?_
    refine sem_drawN [(17, [1000000])] [] [] [(2, [1000000]), (3, [1000000]), (4, [1000000]), (5, [1000000])] [] 18 (by kernel_rfl) (by kernel_rfl) (by kernel_rfl) ?_
    refine evd_run 10 (by kernel_rfl) ?_
    obtain ⟨x111, hx111, h⟩ := bindS h
    refine evd_val (by kernel_rfl) (st_idxO (c := cI) (l := s60.2) (i := (iadd a s60.1)) (kd := .i64) (kk := (.top 1000000)) (e := 3) (sz := 1) (by kernel_rfl) (by kernel_rfl) hx111 rfl) (by kernel_rfl) (by kernel_rfl) ?_
    refine evd_val (by kernel_rfl) (st_ldO (c := cI) (l := s60.2) (i := (Int.toNat (iadd a s60.1))) (v := (vI x111)) (agg := false) (sz := 1) (kk := (.top 1000000)) (e := 3) (off := 0) (J := []) (by kernel_rfl) (by kernel_rfl) (by kernel_rfl) ((idxS hx111).2) (by kernel_rfl)) (by kernel_rfl) (by kernel_rfl) ?_
    refine evd_run 2 (by kernel_rfl) ?_
    obtain ⟨x112, hx112, h⟩ := bindS h
    refine evd_val (by kernel_rfl) (st_idxO (c := cI) (l := s60.2) (i := a) (kd := .i64) (kk := (.top 1000000)) (e := 3) (sz := 1) (by kernel_rfl) (by kernel_rfl) hx112 rfl) (by kernel_rfl) (by kernel_rfl) ?_
    refine evd_val (by kernel_rfl) (st_ldO (c := cI) (l := s60.2) (i := (Int.toNat a)) (v := (vI x112)) (agg := false) (sz := 1) (kk := (.top 1000000)) (e := 3) (off := 0) (J := []) (by kernel_rfl) (by kernel_rfl) (by kernel_rfl) ((idxS hx112).2) (by kernel_rfl)) (by kernel_rfl) (by kernel_rfl) ?_
    obtain ⟨x113, hx113, h⟩ := bindS h
    refine evd_val (by kernel_rfl) (st_idxO (c := cI) (l := s60.2) (i := a) (kd := .i64) (kk := (.top 1000000)) (e := 3) (sz := 1) (by kernel_rfl) (by kernel_rfl) hx113 rfl) (by kernel_rfl) (by kernel_rfl) ?_
    refine evd_set (by kernel_rfl) (st_stO (c := cI) (l := s60.2) (i := (Int.toNat a)) (x := x113) (x' := x111) (v := (vI x111)) (agg := false) (sz := 1) (kk := (.top 1000000)) (e := 3) (off := 0) (J := []) (o := .row 3 [] (List.map cI (List.set s60.2 (Int.toNat a) x111))) (by kernel_rfl) (by kernel_rfl) (by kernel_rfl) ((idxS hx113).2) (by kernel_rfl) (by kernel_rfl) (by kernel_rfl)) (by kernel_rfl) (by kernel_rfl) (by kernel_rfl) ?_
    refine evd_end (by kernel_rfl) ?_
    obtain ⟨x114, hx114, h⟩ := bindS h
    refine evo_op (st_idxO (c := cI) (l := (List.set s60.2 (Int.toNat a) x111)) (i := (iadd a s60.1)) (kd := .i64) (kk := (.top 1000000)) (e := 3) (sz := 1) (by kernel_rfl) (by kernel_rfl) hx114 rfl) ?_
    refine evo_op (st_stO (c := cI) (l := (List.set s60.2 (Int.toNat a) x111)) (i := (Int.toNat (iadd a s60.1))) (x := x114) (x' := x112) (v := (vI x112)) (agg := false) (sz := 1) (kk := (.top 1000000)) (e := 3) (off := 0) (J := []) (o := .row 3 [] (List.map cI (List.set (List.set s60.2 (Int.toNat a) x111) (Int.toNat (iadd a s60.1)) x112))) (by kernel_rfl) (by kernel_rfl) (by kernel_rfl) ((idxS hx114).2) (by kernel_rfl) (by kernel_rfl) (by kernel_rfl)) ?_
    refine evo_endS (by kernel_rfl) (fun τ hτ => ?_)
    refine th_normalS hτ ⟨[(0, (.row (.top 1000000) 3)), (3, (.fn 112 [])), (8, (vI a)), (9, (vI 0)), (12, (vI s60.1))], [(1000000, .row 3 [] (List.map cI (List.set (List.set s60.2 (Int.toNat a) x111) (Int.toNat (iadd a s60.1)) x112)))]⟩ (here (by kernel_rfl)) ?_
    refine sem_region (by kernel_rfl) ?_
    refine evs_run 5 (by kernel_rfl) ?_
    obtain ⟨r116, hr116, h⟩ := bindS h
    refine evs_callS [(1000000, 1000000)] [] [] (by kernel_rfl) (W.slices_siftDownCmpFunc_int__cmp_Compare_int_ok hr116) (by kernel_rfl) (by kernel_rfl) (.inl rfl) ?_
    refine evs_endS (by kernel_rfl) (fun τ hτ => ?_)
    refine bl_normal ?_
    refine th_normalS hτ ⟨[(0, (.row (.top 1000000) 3)), (3, (.fn 112 [])), (8, (vI a)), (9, (vI 0)), (12, (vI s60.1))], [(1000000, .row 3 [] (List.map cI r116))]⟩ (here (by kernel_rfl)) ?_
    refine sem_region (by kernel_rfl) ?_
    refine z6 3 (by kernel_rfl) (fun τ hτ => ?_)
    obtain rfl := Option.some.inj h
    exact lk_nextS hτ (here (by kernel_rfl))
   ·replace h := iteF hb h
    refine sem_exitS 2 (by kernel_rfl) rfl (fun τ hτ => ?_)
    refine th_exit ?_
    obtain rfl := Option.some.inj h
    exact lk_outS hτ rfl (here (by kernel_rfl))
  ·intro x
   rfl
  ·intro τ hτ
   refine bl_hit (by kernel_rfl) ?_
   obtain rfl := Option.some.inj h
   exact rk_normal hτ [] (here (by kernel_rfl)) (by kernel_rfl)
theorem W.slices_breakPatternsCmpFunc_int__cmp_Compare_int_ok {a : Int} {b : Int} {h0 : (List Int)} {r : (List Int)} (h : slices_breakPatternsCmpFunc_int__cmp_Compare_int a b h0 = some r) : PC G.P 138 [(.row (.top 1000000) 3), (vI a), (vI b), (.fn 112 [])] [(1000000, .row 3 [] (List.map cI h0))] (.tup []) [(1000000, .row 3 [] (List.map cI r))] := by
 refine pc_of G (fn := Try.f138) Try.func138 (by kernel_rfl) (by kernel_rfl) (by kernel_rfl) (by kernel_rfl) (by kernel_rfl) ?_
 refine sem_set ⟨[(0, (.row (.top 1000000) 3)), (1, (vI a)), (2, (vI b))], [(1000000, .row 3 [] (List.map cI h0))]⟩ (by kernel_rfl) ?_
 refine z3 4 ⟨[(0, (.row (.top 1000000) 3)), (1, (vI a)), (8, (vI (isub b a)))], [(1000000, .row 3 [] (List.map cI h0))]⟩ (by kernel_rfl) ?_
 refine z3 2 ⟨[(0, (.row (.top 1000000) 3)), (1, (vI a)), (8, (vI (isub b a))), (17, (vB (decide ((isub b a) ≥ 8))))], [(1000000, .row 3 [] (List.map cI h0))]⟩ (by kernel_rfl) ?_
 refine sem_cond (decide ((isub b a) ≥ 8)) (by kernel_rfl) (by kernel_rfl) (fun hb => ?_) (fun hb => ?_)
 ·replace h := iteT hb h
  refine z3 4 ⟨[(0, (.row (.top 1000000) 3)), (1, (vI a)), (8, (vI (isub b a))), (9, (.ptr 9 0))], [(9, .box [(vK .u64 (IntKind.wrap .u64 (isub b a)))]), (1000000, .row 3 [] (List.map cI h0))]⟩ (by kernel_rfl) ?_
  refine z7 (by kernel_rfl) ?_
  refine evs_run 1 (by kernel_rfl) ?_
  obtain ⟨r2, hr2, h⟩ := bindS h
  refine evs_callP [] (by kernel_rfl) (W.slices_nextPowerOfTwo_ok hr2) (by kernel_rfl) (.inl rfl) (by kernel_rfl) ?_
  refine z1 1 ⟨[(0, (.row (.top 1000000) 3)), (1, (vI a)), (8, (vI (isub b a))), (9, (.ptr 9 0)), (10, (vK .u64 r2))], [(9, .box [(vK .u64 (IntKind.wrap .u64 (isub b a)))]), (1000000, .row 3 [] (List.map cI h0))]⟩ (by kernel_rfl) ?_
  refine z3 7 ⟨[(0, (.row (.top 1000000) 3)), (1, (vI a)), (8, (vI (isub b a))), (9, (.ptr 9 0)), (10, (vK .u64 r2)), (11, (vI (isub (iadd a (imul (iquo (isub b a) 4) 2)) 1)))], [(9, .box [(vK .u64 (IntKind.wrap .u64 (isub b a)))]), (1000000, .row 3 [] (List.map cI h0))]⟩ (by kernel_rfl) ?_
  refine sem_block (by kernel_rfl) ?_
  obtain ⟨x95, hx95, h⟩ := bindS h
  refine sem_loopS (fun (s34 : Int × Int × (List Int)) => ⟨[(0, (.row (.top 1000000) 3)), (1, (vI a)), (8, (vI (isub b a))), (9, (.ptr 500000 0)), (10, (vK .u64 r2)), (11, (vI s34.1))], [(500000, .box [(vK .u64 s34.2.1)]), (1000000, .row 3 [] (List.map cI s34.2.2))]⟩) (fun (x95 : (List Int)) => (.exit 0, ⟨[], [(1000000, .row 3 [] (List.map cI x95))]⟩)) (slices_breakPatternsCmpFunc_int__cmp_Compare_int_l2 a b r2) ((isub (iadd a (imul (iquo (isub b a) 4) 2)) 1), (IntKind.wrap .u64 (isub b a)), h0) x95 (by kernel_rfl) (subR_prep [] [(9, 500000), (1000000, 1000000)] (by kernel_rfl) rfl rfl (by kernel_rfl)) hx95 ?_ ?_ ?_
  ·intro s34 r h
   refine sem_seq (by kernel_rfl) ?_
   refine z3 8 ⟨[(0, (.row (.top 1000000) 3)), (1, (vI a)), (8, (vI (isub b a))), (9, (.ptr 500000 0)), (10, (vK .u64 r2)), (11, (vI s34.1)), (35, (vB (decide (s34.1 ≤ (iadd (iadd a (imul (iquo (isub b a) 4) 2)) 1)))))], [(500000, .box [(vK .u64 s34.2.1)]), (1000000, .row 3 [] (List.map cI s34.2.2))]⟩ (by kernel_rfl) ?_
   refine sem_cond (decide (s34.1 ≤ (iadd (iadd a (imul (iquo (isub b a) 4) 2)) 1))) (by kernel_rfl) (by kernel_rfl) (fun hb => ?_) (fun hb => ?_)
   ·replace h := iteT hb h
    refine z4 ⟨[(0, (.row (.top 1000000) 3)), (1, (vI a)), (8, (vI (isub b a))), (9, (.ptr 500000 0)), (10, (vK .u64 r2)), (11, (vI s34.1))], [(500000, .box [(vK .u64 s34.2.1)]), (1000000, .row 3 [] (List.map cI s34.2.2))]⟩ (by kernel_rfl) ?_
    refine sem_seq (by kernel_rfl) ?_
    refine sem_block (by kernel_rfl) ?_
    refine z7 (by kernel_rfl) ?_
    obtain ⟨r81, hr81, h⟩ := bindS h
    refine evs_callS [(1000000, 500000)] [] [] (by kernel_rfl) (W.slices_xorshift_Next_ok hr81) (by kernel_rfl) (by kernel_rfl) (.inl rfl) ?_
    refine z1 5 ⟨[(0, (.row (.top 1000000) 3)), (1, (vI a)), (8, (vI (isub b a))), (9, (.ptr 500000 0)), (10, (vK .u64 r2)), (11, (vI s34.1)), (12, (vI (IntKind.wrap .i64 (kand .u64 r81 (IntKind.wrap .u64 (r2 - 1))))))], [(500000, .box [(vK .u64 (kxor .u64 (kxor .u64 (kxor .u64 s34.2.1 (IntKind.wrap .u64 (s34.2.1 * 2 ^ (min (Int.toNat 13) 64)))) (Int.fdiv (kxor .u64 s34.2.1 (IntKind.wrap .u64 (s34.2.1 * 2 ^ (min (Int.toNat 13) 64)))) (2 ^ (min (Int.toNat 7) 64)))) (IntKind.wrap .u64 ((kxor .u64 (kxor .u64 s34.2.1 (IntKind.wrap .u64 (s34.2.1 * 2 ^ (min (Int.toNat 13) 64)))) (Int.fdiv (kxor .u64 s34.2.1 (IntKind.wrap .u64 (s34.2.1 * 2 ^ (min (Int.toNat 13) 64)))) (2 ^ (min (Int.toNat 7) 64)))) * 2 ^ (min (Int.toNat 17) 64)))))]), (1000000, .row 3 [] (List.map cI s34.2.2))]⟩ (by kernel_rfl) ?_
    refine sem_seqJ (fun (j82 : Int) => ⟨[(0, (.row (.top 1000000) 3)), (1, (vI a)), (8, (vI (isub b a))), (9, (.ptr 500000 0)), (10, (vK .u64 r2)), (11, (vI s34.1)), (12, (vI j82))], [(500000, .box [(vK .u64 (kxor .u64 (kxor .u64 (kxor .u64 s34.2.1 (IntKind.wrap .u64 (s34.2.1 * 2 ^ (min (Int.toNat 13) 64)))) (Int.fdiv (kxor .u64 s34.2.1 (IntKind.wrap .u64 (s34.2.1 * 2 ^ (min (Int.toNat 13) 64)))) (2 ^ (min (Int.toNat 7) 64)))) (IntKind.wrap .u64 ((kxor .u64 (kxor .u64 s34.2.1 (IntKind.wrap .u64 (s34.2.1 * 2 ^ (min (Int.toNat 13) 64)))) (Int.fdiv (kxor .u64 s34.2.1 (IntKind.wrap .u64 (s34.2.1 * 2 ^ (min (Int.toNat 13) 64)))) (2 ^ (min (Int.toNat 7) 64)))) * 2 ^ (min (Int.toNat 17) 64)))))]), (1000000, .row 3 [] (List.map cI s34.2.2))]⟩) (slices_breakPatternsCmpFunc_int__cmp_Compare_int_k1 a s34) r (by kernel_rfl) (fun j82 h => ?_) ?_
    ·refine sem_drawN [(17, [1000000])] [] [] [(2, [1000000]), (3, [1000000]), (4, [1000000]), (5, [1000000])] [] 18 (by kernel_rfl) (by kernel_rfl) (by kernel_rfl) ?_
     refine evd_run 10 (by kernel_rfl) ?_
     obtain ⟨x91, hx91, h⟩ := bindS h
     refine evd_val (by kernel_rfl) (st_idxO (c := cI) (l := s34.2.2) (i := (iadd a j82)) (kd := .i64) (kk := (.top 1000000)) (e := 3) (sz := 1) (by kernel_rfl) (by kernel_rfl) hx91 rfl) (by kernel_rfl) (by kernel_rfl) ?_
     refine evd_val (by kernel_rfl) (st_ldO (c := cI) (l := s34.2.2) (i := (Int.toNat (iadd a j82))) (v := (vI x91)) (agg := false) (sz := 1) (kk := (.top 1000000)) (e := 3) (off := 0) (J := []) (by kernel_rfl) (by kernel_rfl) (by kernel_rfl) ((idxS hx91).2) (by kernel_rfl)) (by kernel_rfl) (by kernel_rfl) ?_
     refine evd_run 2 (by kernel_rfl) ?_
     obtain ⟨x92, hx92, h⟩ := bindS h
     refine evd_val (by kernel_rfl) (st_idxO (c := cI) (l := s34.2.2) (i := s34.1) (kd := .i64) (kk := (.top 1000000)) (e := 3) (sz := 1) (by kernel_rfl) (by kernel_rfl) hx92 rfl) (by kernel_rfl) (by kernel_rfl) ?_
     refine evd_val (by kernel_rfl) (st_ldO (c := cI) (l := s34.2.2) (i := (Int.toNat s34.1)) (v := (vI x92)) (agg := false) (sz := 1) (kk := (.top 1000000)) (e := 3) (off := 0) (J := []) (by kernel_rfl) (by kernel_rfl) (by kernel_rfl) ((idxS hx92).2) (by kernel_rfl)) (by kernel_rfl) (by kernel_rfl) ?_
     obtain ⟨x93, hx93, h⟩ := bindS h
     refine evd_val (by kernel_rfl) (st_idxO (c := cI) (l := s34.2.2) (i := s34.1) (kd := .i64) (kk := (.top 1000000)) (e := 3) (sz := 1) (by kernel_rfl) (by kernel_rfl) hx93 rfl) (by kernel_rfl) (by kernel_rfl) ?_
     refine evd_set (by kernel_rfl) (st_stO (c := cI) (l := s34.2.2) (i := (Int.toNat s34.1)) (x := x93) (x' := x91) (v := (vI x91)) (agg := false) (sz := 1) (kk := (.top 1000000)) (e := 3) (off := 0) (J := []) (o := .row 3 [] (List.map cI (List.set s34.2.2 (Int.toNat s34.1) x91))) (by kernel_rfl) (by kernel_rfl) (by kernel_rfl) ((idxS hx93).2) (by kernel_rfl) (by kernel_rfl) (by kernel_rfl)) (by kernel_rfl) (by kernel_rfl) (by kernel_rfl) ?_
     refine evd_end (by kernel_rfl) ?_
     obtain ⟨x94, hx94, h⟩ := bindS h
     refine evo_op (st_idxO (c := cI) (l := (List.set s34.2.2 (Int.toNat s34.1) x91)) (i := (iadd a j82)) (kd := .i64) (kk := (.top 1000000)) (e := 3) (sz := 1) (by kernel_rfl) (by kernel_rfl) hx94 rfl) ?_
     refine evo_op (st_stO (c := cI) (l := (List.set s34.2.2 (Int.toNat s34.1) x91)) (i := (Int.toNat (iadd a j82))) (x := x94) (x' := x92) (v := (vI x92)) (agg := false) (sz := 1) (kk := (.top 1000000)) (e := 3) (off := 0) (J := []) (o := .row 3 [] (List.map cI (List.set (List.set s34.2.2 (Int.toNat s34.1) x91) (Int.toNat (iadd a j82)) x92))) (by kernel_rfl) (by kernel_rfl) (by kernel_rfl) ((idxS hx94).2) (by kernel_rfl) (by kernel_rfl) (by kernel_rfl)) ?_
     refine evo_endS (by kernel_rfl) (fun τ hτ => ?_)
     refine bl_normal ?_
     refine th_normalS hτ ⟨[(0, (.row (.top 1000000) 3)), (1, (vI a)), (8, (vI (isub b a))), (9, (.ptr 500000 0)), (10, (vK .u64 r2)), (11, (vI s34.1))], [(500000, .box [(vK .u64 (kxor .u64 (kxor .u64 (kxor .u64 s34.2.1 (IntKind.wrap .u64 (s34.2.1 * 2 ^ (min (Int.toNat 13) 64)))) (Int.fdiv (kxor .u64 s34.2.1 (IntKind.wrap .u64 (s34.2.1 * 2 ^ (min (Int.toNat 13) 64)))) (2 ^ (min (Int.toNat 7) 64)))) (IntKind.wrap .u64 ((kxor .u64 (kxor .u64 s34.2.1 (IntKind.wrap .u64 (s34.2.1 * 2 ^ (min (Int.toNat 13) 64)))) (Int.fdiv (kxor .u64 s34.2.1 (IntKind.wrap .u64 (s34.2.1 * 2 ^ (min (Int.toNat 13) 64)))) (2 ^ (min (Int.toNat 7) 64)))) * 2 ^ (min (Int.toNat 17) 64)))))]), (1000000, .row 3 [] (List.map cI (List.set (List.set s34.2.2 (Int.toNat s34.1) x91) (Int.toNat (iadd a j82)) x92)))]⟩ (here (by kernel_rfl)) ?_
     refine sem_region (by kernel_rfl) ?_
     refine z6 3 (by kernel_rfl) (fun τ hτ => ?_)
     obtain rfl := Option.some.inj h
     exact lk_nextS hτ (here (by kernel_rfl))
    refine z3 3 ⟨[(0, (.row (.top 1000000) 3)), (1, (vI a)), (8, (vI (isub b a))), (9, (.ptr 500000 0)), (10, (vK .u64 r2)), (11, (vI s34.1)), (12, (vI (IntKind.wrap .i64 (kand .u64 r81 (IntKind.wrap .u64 (r2 - 1)))))), (45, (vB (decide ((IntKind.wrap .i64 (kand .u64 r81 (IntKind.wrap .u64 (r2 - 1)))) ≥ (isub b a)))))], [(500000, .box [(vK .u64 (kxor .u64 (kxor .u64 (kxor .u64 s34.2.1 (IntKind.wrap .u64 (s34.2.1 * 2 ^ (min (Int.toNat 13) 64)))) (Int.fdiv (kxor .u64 s34.2.1 (IntKind.wrap .u64 (s34.2.1 * 2 ^ (min (Int.toNat 13) 64)))) (2 ^ (min (Int.toNat 7) 64)))) (IntKind.wrap .u64 ((kxor .u64 (kxor .u64 s34.2.1 (IntKind.wrap .u64 (s34.2.1 * 2 ^ (min (Int.toNat 13) 64)))) (Int.fdiv (kxor .u64 s34.2.1 (IntKind.wrap .u64 (s34.2.1 * 2 ^ (min (Int.toNat 13) 64)))) (2 ^ (min (Int.toNat 7) 64)))) * 2 ^ (min (Int.toNat 17) 64)))))]), (1000000, .row 3 [] (List.map cI s34.2.2))]⟩ (by kernel_rfl) ?_
    refine sem_cond (decide ((IntKind.wrap .i64 (kand .u64 r81 (IntKind.wrap .u64 (r2 - 1)))) ≥ (isub b a))) (by kernel_rfl) (by kernel_rfl) (fun hb => ?_) (fun hb => ?_)
    ·replace h := iteT hb h
     refine sem_region (by kernel_rfl) ?_
     refine z6 4 (by kernel_rfl) (fun τ hτ => ?_)
     exact jk_normal (isub (IntKind.wrap .i64 (kand .u64 r81 (IntKind.wrap .u64 (r2 - 1)))) (isub b a)) h hτ (here (by kernel_rfl))
    ·replace h := iteF hb h
     refine sem_skipS (by kernel_rfl) (fun τ hτ => ?_)
     exact jk_normal (IntKind.wrap .i64 (kand .u64 r81 (IntKind.wrap .u64 (r2 - 1)))) h hτ (here (by kernel_rfl))
   ·replace h := iteF hb h
    refine sem_exitS 0 (by kernel_rfl) rfl (fun τ hτ => ?_)
    refine th_exit ?_
    obtain rfl := Option.some.inj h
    exact lk_outS hτ rfl (here (by kernel_rfl))
  ·intro x
   rfl
  ·intro τ hτ
   refine bl_hit (by kernel_rfl) ?_
   obtain rfl := Option.some.inj h
   exact rk_normal hτ [] (here (by kernel_rfl)) (by kernel_rfl)
 ·replace h := iteF hb h
  refine sem_skipS (by kernel_rfl) (fun τ hτ => ?_)
  obtain rfl := Option.some.inj h
  exact rk_normal hτ [] (here (by kernel_rfl)) (by kernel_rfl)
theorem W.slices_order2CmpFunc_int__cmp_Compare_int_ok {data : (List Int)} {a : Int} {b : Int} {h0_0 : Int} {r : Int × Int × Int} (h : slices_order2CmpFunc_int__cmp_Compare_int data a b h0_0 = some r) : PC G.P 153 [(.sl (List.map cI data)), (vI a), (vI b), (.ptr 1000000 0), (.fn 112 [])] [(1000000, .box [(vI h0_0)])] (.tup [(vI r.1), (vI r.2.1)]) [(1000000, .box [(vI r.2.2)])] := by
 refine pc_of G (fn := Try.f153) Try.func153 (by kernel_rfl) (by kernel_rfl) (by kernel_rfl) (by kernel_rfl) (by kernel_rfl) ?_
 refine sem_set ⟨[(0, (.sl (List.map cI data))), (1, (vI a)), (2, (vI b)), (3, (.ptr 1000000 0)), (4, (.fn 112 []))], [(1000000, .box [(vI h0_0)])]⟩ (by kernel_rfl) ?_
 refine z3 2 ⟨[(0, (.sl (List.map cI data))), (1, (vI a)), (2, (vI b)), (3, (.ptr 1000000 0)), (4, (.fn 112 []))], [(1000000, .box [(vI h0_0)])]⟩ (by kernel_rfl) ?_
 refine sem_seq (by kernel_rfl) ?_
 refine sem_seq (by kernel_rfl) ?_
 refine sem_drawN [] [] [] [] [] 9 (by kernel_rfl) (by kernel_rfl) (by kernel_rfl) ?_
 refine evd_run 3 (by kernel_rfl) ?_
 obtain ⟨x16, hx16, h⟩ := bindS h
 refine evd_val (by kernel_rfl) (st_idx (c := cI) (l := data) (i := b) (kd := .i64) (sz := 1) (by kernel_rfl) hx16 rfl) (by kernel_rfl) (by kernel_rfl) ?_
 refine evd_run 3 (by kernel_rfl) ?_
 obtain ⟨x17, hx17, h⟩ := bindS h
 refine evd_val (by kernel_rfl) (st_idx (c := cI) (l := data) (i := a) (kd := .i64) (sz := 1) (by kernel_rfl) hx17 rfl) (by kernel_rfl) (by kernel_rfl) ?_
 refine evd_run 1 (by kernel_rfl) ?_
 refine evd_end (by kernel_rfl) ?_
 obtain ⟨r18, hr18, h⟩ := bindS h
 refine evo_callP [] (by kernel_rfl) (W.cmp_Compare_int_ok hr18) (by kernel_rfl) (.inl rfl) (by kernel_rfl) ?_
 refine evo_run 1 (by kernel_rfl) ?_
 refine evo_endS (by kernel_rfl) (fun τ hτ => ?_)
 refine th_normalS hτ ⟨[(1, (vI a)), (2, (vI b)), (3, (.ptr 1000000 0)), (22, (vB (decide (r18 < 0))))], [(1000000, .box [(vI h0_0)])]⟩ (here (by kernel_rfl)) ?_
 refine sem_cond (decide (r18 < 0)) (by kernel_rfl) (by kernel_rfl) (fun hb => ?_) (fun hb => ?_)
 ·replace h := iteT hb h
  refine z3 6 ⟨[(1, (vI a)), (2, (vI b))], [(1000000, .box [(vI (iadd h0_0 1))])]⟩ (by kernel_rfl) ?_
  refine z8 4 ⟨[(10, (vI b)), (11, (vI a))], [(1000000, .box [(vI (iadd h0_0 1))])]⟩ (by kernel_rfl) (fun τ hτ => ?_)
  refine th_ret ?_
  obtain rfl := Option.some.inj h
  exact rk_ret hτ [(10, (vI b)), (11, (vI a))] (here (by kernel_rfl)) (by kernel_rfl)
 ·replace h := iteF hb h
  refine z4 ⟨[(1, (vI a)), (2, (vI b))], [(1000000, .box [(vI h0_0)])]⟩ (by kernel_rfl) ?_
  refine z8 4 ⟨[(10, (vI a)), (11, (vI b))], [(1000000, .box [(vI h0_0)])]⟩ (by kernel_rfl) (fun τ hτ => ?_)
  obtain rfl := Option.some.inj h
  exact rk_ret hτ [(10, (vI a)), (11, (vI b))] (here (by kernel_rfl)) (by kernel_rfl)
theorem W.slices_medianCmpFunc_int__cmp_Compare_int_ok {data : (List Int)} {a : Int} {b : Int} {c : Int} {h0_0 : Int} {r : Int × Int} (h : slices_medianCmpFunc_int__cmp_Compare_int data a b c h0_0 = some r) : PC G.P 151 [(.sl (List.map cI data)), (vI a), (vI b), (vI c), (.ptr 1000000 0), (.fn 112 [])] [(1000000, .box [(vI h0_0)])] (vI r.1) [(1000000, .box [(vI r.2)])] := by
 refine pc_of G (fn := Try.f151) Try.func151 (by kernel_rfl) (by kernel_rfl) (by kernel_rfl) (by kernel_rfl) (by kernel_rfl) ?_
 refine sem_set ⟨[(0, (.sl (List.map cI data))), (1, (vI a)), (2, (vI b)), (3, (vI c)), (4, (.ptr 1000000 0)), (5, (.fn 112 []))], [(1000000, .box [(vI h0_0)])]⟩ (by kernel_rfl) ?_
 refine z3 1 ⟨[(0, (.sl (List.map cI data))), (1, (vI a)), (2, (vI b)), (3, (vI c)), (4, (.ptr 1000000 0)), (5, (.fn 112 []))], [(1000000, .box [(vI h0_0)])]⟩ (by kernel_rfl) ?_
 refine z7 (by kernel_rfl) ?_
 refine evs_run 5 (by kernel_rfl) ?_
 obtain ⟨r2, hr2, h⟩ := bindS h
 refine evs_callS [(1000000, 1000000)] [] [] (by kernel_rfl) (W.slices_order2CmpFunc_int__cmp_Compare_int_ok hr2) (by kernel_rfl) (by kernel_rfl) (.inl rfl) ?_
 refine z1 5 ⟨[(0, (.sl (List.map cI data))), (1, (vI r2.1)), (2, (vI r2.2.1)), (3, (vI c)), (4, (.ptr 1000000 0)), (5, (.fn 112 []))], [(1000000, .box [(vI r2.2.2)])]⟩ (by kernel_rfl) ?_
 refine z7 (by kernel_rfl) ?_
 refine evs_run 5 (by kernel_rfl) ?_
 obtain ⟨r4, hr4, h⟩ := bindS h
 refine evs_callS [(1000000, 1000000)] [] [] (by kernel_rfl) (W.slices_order2CmpFunc_int__cmp_Compare_int_ok hr4) (by kernel_rfl) (by kernel_rfl) (.inl rfl) ?_
 refine z1 5 ⟨[(0, (.sl (List.map cI data))), (1, (vI r2.1)), (2, (vI r4.1)), (4, (.ptr 1000000 0)), (5, (.fn 112 []))], [(1000000, .box [(vI r4.2.2)])]⟩ (by kernel_rfl) ?_
 refine z7 (by kernel_rfl) ?_
 refine evs_run 5 (by kernel_rfl) ?_
 obtain ⟨r6, hr6, h⟩ := bindS h
 refine evs_callS [(1000000, 1000000)] [] [] (by kernel_rfl) (W.slices_order2CmpFunc_int__cmp_Compare_int_ok hr6) (by kernel_rfl) (by kernel_rfl) (.inl rfl) ?_
 refine z1 5 ⟨[(2, (vI r6.2.1))], [(1000000, .box [(vI r6.2.2)])]⟩ (by kernel_rfl) ?_
 refine z8 2 ⟨[(12, (vI r6.2.1))], [(1000000, .box [(vI r6.2.2)])]⟩ (by kernel_rfl) (fun τ hτ => ?_)
 obtain rfl := Option.some.inj h
 exact rk_ret hτ [(12, (vI r6.2.1))] (here (by kernel_rfl)) (by kernel_rfl)
theorem W.slices_medianAdjacentCmpFunc_int__cmp_Compare_int_ok {data : (List Int)} {a : Int} {h0_0 : Int} {r : Int × Int} (h : slices_medianAdjacentCmpFunc_int__cmp_Compare_int data a h0_0 = some r) : PC G.P 150 [(.sl (List.map cI data)), (vI a), (.ptr 1000000 0), (.fn 112 [])] [(1000000, .box [(vI h0_0)])] (vI r.1) [(1000000, .box [(vI r.2)])] := by
 refine pc_of G (fn := Try.f150) Try.func150 (by kernel_rfl) (by kernel_rfl) (by kernel_rfl) (by kernel_rfl) (by kernel_rfl) ?_
 refine sem_set ⟨[(0, (.sl (List.map cI data))), (1, (vI a)), (2, (.ptr 1000000 0)), (3, (.fn 112 []))], [(1000000, .box [(vI h0_0)])]⟩ (by kernel_rfl) ?_
 refine z3 1 ⟨[(0, (.sl (List.map cI data))), (1, (vI a)), (2, (.ptr 1000000 0)), (3, (.fn 112 []))], [(1000000, .box [(vI h0_0)])]⟩ (by kernel_rfl) ?_
 refine z7 (by kernel_rfl) ?_
 refine evs_run 8 (by kernel_rfl) ?_
 obtain ⟨r2, hr2, h⟩ := bindS h
 refine evs_callS [(1000000, 1000000)] [] [] (by kernel_rfl) (W.slices_medianCmpFunc_int__cmp_Compare_int_ok hr2) (by kernel_rfl) (by kernel_rfl) (.inl rfl) ?_
 refine z1 1 ⟨[(8, (vI r2.1))], [(1000000, .box [(vI r2.2)])]⟩ (by kernel_rfl) ?_
 refine sem_retS (by kernel_rfl) (fun τ hτ => ?_)
 obtain rfl := Option.some.inj h
 exact rk_ret hτ [(8, (vI r2.1))] (here (by kernel_rfl)) (by kernel_rfl)
theorem W.slices_choosePivotCmpFunc_int__cmp_Compare_int_ok {data : (List Int)} {a : Int} {b : Int} {r : Int × Int} (h : slices_choosePivotCmpFunc_int__cmp_Compare_int data a b = some r) : PC G.P 139 [(.sl (List.map cI data)), (vI a), (vI b), (.fn 112 [])] [] (.tup [(vI r.1), (vI r.2)]) [] := by
 refine pc_of G (fn := Try.f139) Try.func139 (by kernel_rfl) (by kernel_rfl) (by kernel_rfl) (by kernel_rfl) (by kernel_rfl) ?_
 refine sem_set ⟨[(0, (.sl (List.map cI data))), (1, (vI a)), (2, (vI b)), (3, (.fn 112 []))], []⟩ (by kernel_rfl) ?_
 refine z3 2 ⟨[(0, (.sl (List.map cI data))), (1, (vI a)), (2, (vI b)), (3, (.fn 112 []))], []⟩ (by kernel_rfl) ?_
 refine z3 4 ⟨[(0, (.sl (List.map cI data))), (1, (vI a)), (3, (.fn 112 [])), (10, (vI (isub b a)))], []⟩ (by kernel_rfl) ?_
 refine z3 1 ⟨[(0, (.sl (List.map cI data))), (1, (vI a)), (3, (.fn 112 [])), (10, (vI (isub b a))), (11, (.ptr 11 0))], [(11, .box [(vI 0)])]⟩ (by kernel_rfl) ?_
 refine z3 6 ⟨[(0, (.sl (List.map cI data))), (1, (vI a)), (3, (.fn 112 [])), (10, (vI (isub b a))), (11, (.ptr 11 0)), (12, (vI (iadd a (imul (iquo (isub b a) 4) 1))))], [(11, .box [(vI 0)])]⟩ (by kernel_rfl) ?_
 refine z3 6 ⟨[(0, (.sl (List.map cI data))), (1, (vI a)), (3, (.fn 112 [])), (10, (vI (isub b a))), (11, (.ptr 11 0)), (12, (vI (iadd a (imul (iquo (isub b a) 4) 1)))), (13, (vI (iadd a (imul (iquo (isub b a) 4) 2))))], [(11, .box [(vI 0)])]⟩ (by kernel_rfl) ?_
 refine z3 6 ⟨[(0, (.sl (List.map cI data))), (3, (.fn 112 [])), (10, (vI (isub b a))), (11, (.ptr 11 0)), (12, (vI (iadd a (imul (iquo (isub b a) 4) 1)))), (13, (vI (iadd a (imul (iquo (isub b a) 4) 2)))), (14, (vI (iadd a (imul (iquo (isub b a) 4) 3))))], [(11, .box [(vI 0)])]⟩ (by kernel_rfl) ?_
 refine sem_seqJ (fun (j16 : Int × Int) => ⟨[(11, (.ptr 500000 0)), (13, (vI j16.1))], [(500000, .box [(vI j16.2)])]⟩) (slices_choosePivotCmpFunc_int__cmp_Compare_int_k1) r (by kernel_rfl) (fun j16 h => ?_) ?_
 ·refine z3 1 ⟨[(13, (vI j16.1)), (55, (vI j16.2))], []⟩ (by kernel_rfl) ?_
  refine sem_block (by kernel_rfl) ?_
  refine z3 2 ⟨[(13, (vI j16.1)), (55, (vI j16.2)), (57, (vB (j16.2 == 0)))], []⟩ (by kernel_rfl) ?_
  refine sem_cond (j16.2 == 0) (by kernel_rfl) (by kernel_rfl) (fun hb => ?_) (fun hb => ?_)
  ·replace h := iteT hb h
   refine z8 3 ⟨[(8, (vI j16.1)), (9, (vI 1))], []⟩ (by kernel_rfl) (fun τ hτ => ?_)
   refine bl_ret ?_
   obtain rfl := Option.some.inj h
   exact rk_ret hτ [(8, (vI j16.1)), (9, (vI 1))] (here (by kernel_rfl)) (by kernel_rfl)
  ·replace h := iteF hb h
   refine z3 2 ⟨[(13, (vI j16.1)), (60, (vB (j16.2 == 12)))], []⟩ (by kernel_rfl) ?_
   refine sem_cond (j16.2 == 12) (by kernel_rfl) (by kernel_rfl) (fun hb => ?_) (fun hb => ?_)
   ·replace h := iteT hb h
    refine z8 3 ⟨[(8, (vI j16.1)), (9, (vI 2))], []⟩ (by kernel_rfl) (fun τ hτ => ?_)
    refine bl_ret ?_
    obtain rfl := Option.some.inj h
    exact rk_ret hτ [(8, (vI j16.1)), (9, (vI 2))] (here (by kernel_rfl)) (by kernel_rfl)
   ·replace h := iteF hb h
    refine z8 3 ⟨[(8, (vI j16.1)), (9, (vI 0))], []⟩ (by kernel_rfl) (fun τ hτ => ?_)
    refine bl_ret ?_
    obtain rfl := Option.some.inj h
    exact rk_ret hτ [(8, (vI j16.1)), (9, (vI 0))] (here (by kernel_rfl)) (by kernel_rfl)
 refine z3 2 ⟨[(0, (.sl (List.map cI data))), (3, (.fn 112 [])), (10, (vI (isub b a))), (11, (.ptr 11 0)), (12, (vI (iadd a (imul (iquo (isub b a) 4) 1)))), (13, (vI (iadd a (imul (iquo (isub b a) 4) 2)))), (14, (vI (iadd a (imul (iquo (isub b a) 4) 3)))), (34, (vB (decide ((isub b a) ≥ 8))))], [(11, .box [(vI 0)])]⟩ (by kernel_rfl) ?_
 refine sem_cond (decide ((isub b a) ≥ 8)) (by kernel_rfl) (by kernel_rfl) (fun hb => ?_) (fun hb => ?_)
 ·replace h := iteT hb h
  refine sem_seqJ (fun (j23 : Int × Int × Int × Int) => ⟨[(0, (.sl (List.map cI data))), (3, (.fn 112 [])), (11, (.ptr 500000 0)), (12, (vI j23.1)), (13, (vI j23.2.1)), (14, (vI j23.2.2.1))], [(500000, .box [(vI j23.2.2.2)])]⟩) (slices_choosePivotCmpFunc_int__cmp_Compare_int_k2 data) r (by kernel_rfl) (fun j23 h => ?_) ?_
  ·refine sem_region (by kernel_rfl) ?_
   refine evs_run 5 (by kernel_rfl) ?_
   obtain ⟨r25, hr25, h⟩ := bindS h
   refine evs_callS [(1000000, 500000)] [] [] (by kernel_rfl) (W.slices_medianCmpFunc_int__cmp_Compare_int_ok hr25) (by kernel_rfl) (by kernel_rfl) (.inl rfl) ?_
   refine z6 1 (by kernel_rfl) (fun τ hτ => ?_)
   exact jk_normal (r25.1, r25.2) h hτ (here (by kernel_rfl))
  refine z3 2 ⟨[(0, (.sl (List.map cI data))), (3, (.fn 112 [])), (11, (.ptr 11 0)), (12, (vI (iadd a (imul (iquo (isub b a) 4) 1)))), (13, (vI (iadd a (imul (iquo (isub b a) 4) 2)))), (14, (vI (iadd a (imul (iquo (isub b a) 4) 3)))), (36, (vB (decide ((isub b a) ≥ 50))))], [(11, .box [(vI 0)])]⟩ (by kernel_rfl) ?_
  refine sem_cond (decide ((isub b a) ≥ 50)) (by kernel_rfl) (by kernel_rfl) (fun hb => ?_) (fun hb => ?_)
  ·replace h := iteT hb h
   refine z7 (by kernel_rfl) ?_
   refine evs_run 3 (by kernel_rfl) ?_
   obtain ⟨r27, hr27, h⟩ := bindS h
   refine evs_callS [(1000000, 11)] [] [] (by kernel_rfl) (W.slices_medianAdjacentCmpFunc_int__cmp_Compare_int_ok hr27) (by kernel_rfl) (by kernel_rfl) (.inl rfl) ?_
   refine z1 1 ⟨[(0, (.sl (List.map cI data))), (3, (.fn 112 [])), (11, (.ptr 11 0)), (12, (vI r27.1)), (13, (vI (iadd a (imul (iquo (isub b a) 4) 2)))), (14, (vI (iadd a (imul (iquo (isub b a) 4) 3))))], [(11, .box [(vI r27.2)])]⟩ (by kernel_rfl) ?_
   refine z7 (by kernel_rfl) ?_
   refine evs_run 3 (by kernel_rfl) ?_
   obtain ⟨r29, hr29, h⟩ := bindS h
   refine evs_callS [(1000000, 11)] [] [] (by kernel_rfl) (W.slices_medianAdjacentCmpFunc_int__cmp_Compare_int_ok hr29) (by kernel_rfl) (by kernel_rfl) (.inl rfl) ?_
   refine z1 1 ⟨[(0, (.sl (List.map cI data))), (3, (.fn 112 [])), (11, (.ptr 11 0)), (12, (vI r27.1)), (13, (vI r29.1)), (14, (vI (iadd a (imul (iquo (isub b a) 4) 3))))], [(11, .box [(vI r29.2)])]⟩ (by kernel_rfl) ?_
   refine sem_region (by kernel_rfl) ?_
   refine evs_run 3 (by kernel_rfl) ?_
   obtain ⟨r31, hr31, h⟩ := bindS h
   refine evs_callS [(1000000, 11)] [] [] (by kernel_rfl) (W.slices_medianAdjacentCmpFunc_int__cmp_Compare_int_ok hr31) (by kernel_rfl) (by kernel_rfl) (.inl rfl) ?_
   refine z6 1 (by kernel_rfl) (fun τ hτ => ?_)
   exact jk_normal (r27.1, r29.1, r31.1, r31.2) h hτ (subR_prep [] [(11, 500000)] (by kernel_rfl) rfl rfl (by kernel_rfl))
  ·replace h := iteF hb h
   refine sem_skipS (by kernel_rfl) (fun τ hτ => ?_)
   exact jk_normal ((iadd a (imul (iquo (isub b a) 4) 1)), (iadd a (imul (iquo (isub b a) 4) 2)), (iadd a (imul (iquo (isub b a) 4) 3)), 0) h hτ (subR_prep [] [(11, 500000)] (by kernel_rfl) rfl rfl (by kernel_rfl))
 ·replace h := iteF hb h
  refine sem_skipS (by kernel_rfl) (fun τ hτ => ?_)
  exact jk_normal ((iadd a (imul (iquo (isub b a) 4) 2)), 0) h hτ (subR_prep [] [(11, 500000)] (by kernel_rfl) rfl rfl (by kernel_rfl))
theorem W.slices_reverseRangeCmpFunc_int__cmp_Compare_int_ok {a : Int} {b : Int} {h0 : (List Int)} {r : (List Int)} (h : slices_reverseRangeCmpFunc_int__cmp_Compare_int a b h0 = some r) : PC G.P 140 [(.row (.top 1000000) 3), (vI a), (vI b), (.fn 112 [])] [(1000000, .row 3 [] (List.map cI h0))] (.tup []) [(1000000, .row 3 [] (List.map cI r))] := by
 refine pc_of G (fn := Try.f140) Try.func140 (by kernel_rfl) (by kernel_rfl) (by kernel_rfl) (by kernel_rfl) (by kernel_rfl) ?_
 refine sem_set ⟨[(0, (.row (.top 1000000) 3)), (1, (vI a)), (2, (vI b))], [(1000000, .row 3 [] (List.map cI h0))]⟩ (by kernel_rfl) ?_
 refine z3 2 ⟨[(0, (.row (.top 1000000) 3)), (2, (vI b)), (8, (vI a))], [(1000000, .row 3 [] (List.map cI h0))]⟩ (by kernel_rfl) ?_
 refine z3 3 ⟨[(0, (.row (.top 1000000) 3)), (8, (vI a)), (9, (vI (isub b 1)))], [(1000000, .row 3 [] (List.map cI h0))]⟩ (by kernel_rfl) ?_
 refine sem_block (by kernel_rfl) ?_
 obtain ⟨x39, hx39, h⟩ := bindS h
 refine sem_loopS (fun (s14 : Int × Int × (List Int)) => ⟨[(0, (.row (.top 1000000) 3)), (8, (vI s14.1)), (9, (vI s14.2.1))], [(1000000, .row 3 [] (List.map cI s14.2.2))]⟩) (fun (x39 : (List Int)) => (.exit 0, ⟨[], [(1000000, .row 3 [] (List.map cI x39))]⟩)) (slices_reverseRangeCmpFunc_int__cmp_Compare_int_l1) (a, (isub b 1), h0) x39 (by kernel_rfl) (here (by kernel_rfl)) hx39 ?_ ?_ ?_
 ·intro s14 r h
  refine sem_seq (by kernel_rfl) ?_
  refine z3 3 ⟨[(0, (.row (.top 1000000) 3)), (8, (vI s14.1)), (9, (vI s14.2.1)), (15, (vB (decide (s14.1 < s14.2.1))))], [(1000000, .row 3 [] (List.map cI s14.2.2))]⟩ (by kernel_rfl) ?_
  refine sem_cond (decide (s14.1 < s14.2.1)) (by kernel_rfl) (by kernel_rfl) (fun hb => ?_) (fun hb => ?_)
  ·replace h := iteT hb h
   refine z4 ⟨[(0, (.row (.top 1000000) 3)), (8, (vI s14.1)), (9, (vI s14.2.1))], [(1000000, .row 3 [] (List.map cI s14.2.2))]⟩ (by kernel_rfl) ?_
   refine sem_block (by kernel_rfl) ?_
   refine sem_seq (by kernel_rfl) ?_
   refine sem_drawN [(13, [1000000])] [] [] [(2, [1000000]), (3, [1000000])] [] 14 (by kernel_rfl) (by kernel_rfl) (by kernel_rfl) ?_
   refine evd_run 6 (by kernel_rfl) ?_
   obtain ⟨x35, hx35, h⟩ := bindS h
   refine evd_val (by kernel_rfl) (st_idxO (c := cI) (l := s14.2.2) (i := s14.2.1) (kd := .i64) (kk := (.top 1000000)) (e := 3) (sz := 1) (by kernel_rfl) (by kernel_rfl) hx35 rfl) (by kernel_rfl) (by kernel_rfl) ?_
   refine evd_val (by kernel_rfl) (st_ldO (c := cI) (l := s14.2.2) (i := (Int.toNat s14.2.1)) (v := (vI x35)) (agg := false) (sz := 1) (kk := (.top 1000000)) (e := 3) (off := 0) (J := []) (by kernel_rfl) (by kernel_rfl) (by kernel_rfl) ((idxS hx35).2) (by kernel_rfl)) (by kernel_rfl) (by kernel_rfl) ?_
   refine evd_run 2 (by kernel_rfl) ?_
   obtain ⟨x36, hx36, h⟩ := bindS h
   refine evd_val (by kernel_rfl) (st_idxO (c := cI) (l := s14.2.2) (i := s14.1) (kd := .i64) (kk := (.top 1000000)) (e := 3) (sz := 1) (by kernel_rfl) (by kernel_rfl) hx36 rfl) (by kernel_rfl) (by kernel_rfl) ?_
   refine evd_val (by kernel_rfl) (st_ldO (c := cI) (l := s14.2.2) (i := (Int.toNat s14.1)) (v := (vI x36)) (agg := false) (sz := 1) (kk := (.top 1000000)) (e := 3) (off := 0) (J := []) (by kernel_rfl) (by kernel_rfl) (by kernel_rfl) ((idxS hx36).2) (by kernel_rfl)) (by kernel_rfl) (by kernel_rfl) ?_
   obtain ⟨x37, hx37, h⟩ := bindS h
   refine evd_val (by kernel_rfl) (st_idxO (c := cI) (l := s14.2.2) (i := s14.1) (kd := .i64) (kk := (.top 1000000)) (e := 3) (sz := 1) (by kernel_rfl) (by kernel_rfl) hx37 rfl) (by kernel_rfl) (by kernel_rfl) ?_
   refine evd_set (by kernel_rfl) (st_stO (c := cI) (l := s14.2.2) (i := (Int.toNat s14.1)) (x := x37) (x' := x35) (v := (vI x35)) (agg := false) (sz := 1) (kk := (.top 1000000)) (e := 3) (off := 0) (J := []) (o := .row 3 [] (List.map cI (List.set s14.2.2 (Int.toNat s14.1) x35))) (by kernel_rfl) (by kernel_rfl) (by kernel_rfl) ((idxS hx37).2) (by kernel_rfl) (by kernel_rfl) (by kernel_rfl)) (by kernel_rfl) (by kernel_rfl) (by kernel_rfl) ?_
   refine evd_end (by kernel_rfl) ?_
   obtain ⟨x38, hx38, h⟩ := bindS h
   refine evo_op (st_idxO (c := cI) (l := (List.set s14.2.2 (Int.toNat s14.1) x35)) (i := s14.2.1) (kd := .i64) (kk := (.top 1000000)) (e := 3) (sz := 1) (by kernel_rfl) (by kernel_rfl) hx38 rfl) ?_
   refine evo_op (st_stO (c := cI) (l := (List.set s14.2.2 (Int.toNat s14.1) x35)) (i := (Int.toNat s14.2.1)) (x := x38) (x' := x36) (v := (vI x36)) (agg := false) (sz := 1) (kk := (.top 1000000)) (e := 3) (off := 0) (J := []) (o := .row 3 [] (List.map cI (List.set (List.set s14.2.2 (Int.toNat s14.1) x35) (Int.toNat s14.2.1) x36))) (by kernel_rfl) (by kernel_rfl) (by kernel_rfl) ((idxS hx38).2) (by kernel_rfl) (by kernel_rfl) (by kernel_rfl)) ?_
   refine evo_endS (by kernel_rfl) (fun τ hτ => ?_)
   refine th_normalS hτ ⟨[(0, (.row (.top 1000000) 3)), (8, (vI s14.1)), (9, (vI s14.2.1))], [(1000000, .row 3 [] (List.map cI (List.set (List.set s14.2.2 (Int.toNat s14.1) x35) (Int.toNat s14.2.1) x36)))]⟩ (here (by kernel_rfl)) ?_
   refine z3 3 ⟨[(0, (.row (.top 1000000) 3)), (8, (vI (iadd s14.1 1))), (9, (vI s14.2.1))], [(1000000, .row 3 [] (List.map cI (List.set (List.set s14.2.2 (Int.toNat s14.1) x35) (Int.toNat s14.2.1) x36)))]⟩ (by kernel_rfl) ?_
   refine sem_region (by kernel_rfl) ?_
   refine z6 3 (by kernel_rfl) (fun τ hτ => ?_)
   refine bl_normal ?_
   obtain rfl := Option.some.inj h
   exact lk_nextS hτ (here (by kernel_rfl))
  ·replace h := iteF hb h
   refine sem_exitS 0 (by kernel_rfl) rfl (fun τ hτ => ?_)
   refine th_exit ?_
   obtain rfl := Option.some.inj h
   exact lk_outS hτ rfl (here (by kernel_rfl))
 ·intro x
  rfl
 ·intro τ hτ
  refine bl_hit (by kernel_rfl) ?_
  obtain rfl := Option.some.inj h
  exact rk_normal hτ [] (here (by kernel_rfl)) (by kernel_rfl)
theorem W.slices_partialInsertionSortCmpFunc_int__cmp_Compare_int_ok {a : Int} {b : Int} {h0 : (List Int)} {r : Bool × (List Int)} (h : slices_partialInsertionSortCmpFunc_int__cmp_Compare_int a b h0 = some r) : PC G.P 141 [(.row (.top 1000000) 3), (vI a), (vI b), (.fn 112 [])] [(1000000, .row 3 [] (List.map cI h0))] (vB r.1) [(1000000, .row 3 [] (List.map cI r.2))] := by
 refine pc_of G (fn := Try.f141) Try.func141 (by kernel_rfl) (by kernel_rfl) (by kernel_rfl) (by kernel_rfl) (by kernel_rfl) ?_
 refine sem_set ⟨[(0, (.row (.top 1000000) 3)), (1, (vI a)), (2, (vI b)), (3, (.fn 112 []))], [(1000000, .row 3 [] (List.map cI h0))]⟩ (by kernel_rfl) ?_
 refine z3 1 ⟨[(0, (.row (.top 1000000) 3)), (1, (vI a)), (2, (vI b)), (3, (.fn 112 []))], [(1000000, .row 3 [] (List.map cI h0))]⟩ (by kernel_rfl) ?_
 refine z3 3 ⟨[(0, (.row (.top 1000000) 3)), (1, (vI a)), (2, (vI b)), (3, (.fn 112 [])), (9, (vI (iadd a 1)))], [(1000000, .row 3 [] (List.map cI h0))]⟩ (by kernel_rfl) ?_
 refine sem_seq (by kernel_rfl) ?_
 refine z3 1 ⟨[(0, (.row (.top 1000000) 3)), (1, (vI a)), (2, (vI b)), (3, (.fn 112 [])), (9, (vI (iadd a 1))), (10, (vI 0))], [(1000000, .row 3 [] (List.map cI h0))]⟩ (by kernel_rfl) ?_
 refine sem_block (by kernel_rfl) ?_
 obtain ⟨x8270, hx8270, h⟩ := bindS h
 refine sem_loopS (fun (s5515 : Int × Int × (List Int)) => ⟨[(0, (.row (.top 1000000) 3)), (1, (vI a)), (2, (vI b)), (3, (.fn 112 [])), (9, (vI s5515.1)), (10, (vI s5515.2.1))], [(1000000, .row 3 [] (List.map cI s5515.2.2))]⟩) (fun (x8270 : Bool × (List Int) ⊕ (List Int)) => match x8270 with | .inl j8271 => (.ret, ⟨[(8, (vB j8271.1))], [(1000000, .row 3 [] (List.map cI j8271.2))]⟩) | .inr j8272 => (.exit 0, ⟨[], [(1000000, .row 3 [] (List.map cI j8272))]⟩)) (slices_partialInsertionSortCmpFunc_int__cmp_Compare_int_l6 a b) ((iadd a 1), 0, h0) x8270 (by kernel_rfl) (here (by kernel_rfl)) hx8270 ?_ ?_ ?_
 ·intro s5515 r h
  refine sem_seq (by kernel_rfl) ?_
  refine z3 2 ⟨[(0, (.row (.top 1000000) 3)), (1, (vI a)), (2, (vI b)), (3, (.fn 112 [])), (9, (vI s5515.1)), (10, (vI s5515.2.1)), (16, (vB (decide (s5515.2.1 < 5))))], [(1000000, .row 3 [] (List.map cI s5515.2.2))]⟩ (by kernel_rfl) ?_
  refine sem_cond (decide (s5515.2.1 < 5)) (by kernel_rfl) (by kernel_rfl) (fun hb => ?_) (fun hb => ?_)
  ·replace h := iteT hb h
   refine z4 ⟨[(0, (.row (.top 1000000) 3)), (1, (vI a)), (2, (vI b)), (3, (.fn 112 [])), (9, (vI s5515.1)), (10, (vI s5515.2.1))], [(1000000, .row 3 [] (List.map cI s5515.2.2))]⟩ (by kernel_rfl) ?_
   refine sem_seqJ (fun (j7581 : Int × (List Int)) => ⟨[(0, (.row (.top 1000000) 3)), (1, (vI a)), (2, (vI b)), (3, (.fn 112 [])), (9, (vI j7581.1)), (10, (vI s5515.2.1))], [(1000000, .row 3 [] (List.map cI j7581.2))]⟩) (slices_partialInsertionSortCmpFunc_int__cmp_Compare_int_k1 s5515) r (by kernel_rfl) (fun j7581 h => ?_) ?_
   ·refine sem_region (by kernel_rfl) ?_
    refine z6 3 (by kernel_rfl) (fun τ hτ => ?_)
    obtain rfl := Option.some.inj h
    exact lk_nextS hτ (here (by kernel_rfl))
   refine sem_block (by kernel_rfl) ?_
   refine sem_seq (by kernel_rfl) ?_
   refine sem_block (by kernel_rfl) ?_
   obtain ⟨x7707, hx7707, h⟩ := bindS h
   refine sem_loopS (fun (s7666 : Int) => ⟨[(0, (.row (.top 1000000) 3)), (1, (vI a)), (2, (vI b)), (3, (.fn 112 [])), (9, (vI s7666)), (10, (vI s5515.2.1))], [(1000000, .row 3 [] (List.map cI s5515.2.2))]⟩) (fun (x7707 : Int) => (.exit 2, ⟨[(0, (.row (.top 1000000) 3)), (1, (vI a)), (2, (vI b)), (3, (.fn 112 [])), (9, (vI x7707)), (10, (vI s5515.2.1))], [(1000000, .row 3 [] (List.map cI s5515.2.2))]⟩)) (slices_partialInsertionSortCmpFunc_int__cmp_Compare_int_l2 b s5515) s5515.1 x7707 (by kernel_rfl) (here (by kernel_rfl)) hx7707 ?_ ?_ ?_
   ·intro s7666 r h
    refine sem_seq (by kernel_rfl) ?_
    refine sem_seq (by kernel_rfl) ?_
    obtain ⟨j7703, hj7703, h⟩ := bindS h
    refine sem_drawP ⟨[(0, (.row (.top 1000000) 3)), (1, (vI a)), (2, (vI b)), (3, (.fn 112 [])), (9, (vI s7666)), (10, (vI s5515.2.1)), (36, (vB j7703))], [(1000000, .row 3 [] (List.map cI s5515.2.2))]⟩ [] [] [] [] [] 14 (by kernel_rfl) (by kernel_rfl) (by kernel_rfl) ?_ (fun τ hτ => ?_)
    ·replace h := hj7703
     refine evd_run 4 (by kernel_rfl) ?_
     refine evd_split (decide (s7666 < b)) (fun b0 => ⟨[(22, (vB b0)), (21, (vB b0)), (20, (vI b)), (19, (vI s7666)), (0, (.row (.top 1000000) 3)), (1, (vI a)), (2, (vI b)), (3, (.fn 112 [])), (9, (vI s7666)), (10, (vI s5515.2.1))], [(1000000, .row 3 [] (List.map cI s5515.2.2))]⟩) (by kernel_rfl) (fun hb => ?_) (fun hb => ?_)
     ·replace h := iteT hb h
      refine evd_run 3 (by kernel_rfl) ?_
      obtain ⟨x7704, hx7704, h⟩ := bindS h
      refine evd_val (by kernel_rfl) (st_idxO (c := cI) (l := s5515.2.2) (i := s7666) (kd := .i64) (kk := (.top 1000000)) (e := 3) (sz := 1) (by kernel_rfl) (by kernel_rfl) hx7704 rfl) (by kernel_rfl) (by kernel_rfl) ?_
      refine evd_val (by kernel_rfl) (st_ldO (c := cI) (l := s5515.2.2) (i := (Int.toNat s7666)) (v := (vI x7704)) (agg := false) (sz := 1) (kk := (.top 1000000)) (e := 3) (off := 0) (J := []) (by kernel_rfl) (by kernel_rfl) (by kernel_rfl) ((idxS hx7704).2) (by kernel_rfl)) (by kernel_rfl) (by kernel_rfl) ?_
      refine evd_run 3 (by kernel_rfl) ?_
      obtain ⟨x7705, hx7705, h⟩ := bindS h
      refine evd_val (by kernel_rfl) (st_idxO (c := cI) (l := s5515.2.2) (i := (isub s7666 1)) (kd := .i64) (kk := (.top 1000000)) (e := 3) (sz := 1) (by kernel_rfl) (by kernel_rfl) hx7705 rfl) (by kernel_rfl) (by kernel_rfl) ?_
      refine evd_val (by kernel_rfl) (st_ldO (c := cI) (l := s5515.2.2) (i := (Int.toNat (isub s7666 1))) (v := (vI x7705)) (agg := false) (sz := 1) (kk := (.top 1000000)) (e := 3) (off := 0) (J := []) (by kernel_rfl) (by kernel_rfl) (by kernel_rfl) ((idxS hx7705).2) (by kernel_rfl)) (by kernel_rfl) (by kernel_rfl) ?_
      refine evd_end (by kernel_rfl) ?_
      obtain ⟨r7706, hr7706, h⟩ := bindS h
      refine evo_callP [] (by kernel_rfl) (W.cmp_Compare_int_ok hr7706) (by kernel_rfl) (.inl rfl) (by kernel_rfl) ?_
      refine evo_run 3 (by kernel_rfl) ?_
      refine evo_endS (by kernel_rfl) (fun τ hτ => ?_)
      obtain rfl := Option.some.inj h
      exact leafC hτ (here (by kernel_rfl))
     ·replace h := iteF hb h
      refine evd_run 10 (by kernel_rfl) ?_
      refine evd_end (by kernel_rfl) ?_
      refine evo_run 4 (by kernel_rfl) ?_
      refine evo_endS (by kernel_rfl) (fun τ hτ => ?_)
      obtain rfl := Option.some.inj h
      exact leafC hτ (here (by kernel_rfl))
    refine th_normalS hτ ⟨[(0, (.row (.top 1000000) 3)), (1, (vI a)), (2, (vI b)), (3, (.fn 112 [])), (9, (vI s7666)), (10, (vI s5515.2.1)), (36, (vB j7703))], [(1000000, .row 3 [] (List.map cI s5515.2.2))]⟩ (here (by kernel_rfl)) ?_
    refine sem_cond j7703 (by kernel_rfl) (by kernel_rfl) (fun hb => ?_) (fun hb => ?_)
    ·replace h := iteT hb h
     refine z4 ⟨[(0, (.row (.top 1000000) 3)), (1, (vI a)), (2, (vI b)), (3, (.fn 112 [])), (9, (vI s7666)), (10, (vI s5515.2.1))], [(1000000, .row 3 [] (List.map cI s5515.2.2))]⟩ (by kernel_rfl) ?_
     refine sem_block (by kernel_rfl) ?_
     refine sem_region (by kernel_rfl) ?_
     refine z6 3 (by kernel_rfl) (fun τ hτ => ?_)
     refine bl_normal ?_
     obtain rfl := Option.some.inj h
     exact lk_nextS hτ (here (by kernel_rfl))
    ·replace h := iteF hb h
     refine sem_exitS 2 (by kernel_rfl) rfl (fun τ hτ => ?_)
     refine th_exit ?_
     obtain rfl := Option.some.inj h
     exact lk_outS hτ rfl (here (by kernel_rfl))
   ·intro x
    rfl
   ·intro τ hτ
    refine bl_hit (by kernel_rfl) ?_
    refine th_normalS hτ ⟨[(0, (.row (.top 1000000) 3)), (1, (vI a)), (2, (vI b)), (3, (.fn 112 [])), (9, (vI x7707)), (10, (vI s5515.2.1))], [(1000000, .row 3 [] (List.map cI s5515.2.2))]⟩ (here (by kernel_rfl)) ?_
    refine sem_seq (by kernel_rfl) ?_
    refine z3 3 ⟨[(0, (.row (.top 1000000) 3)), (1, (vI a)), (2, (vI b)), (3, (.fn 112 [])), (9, (vI x7707)), (10, (vI s5515.2.1)), (41, (vB (x7707 == b)))], [(1000000, .row 3 [] (List.map cI s5515.2.2))]⟩ (by kernel_rfl) ?_
    refine sem_cond (x7707 == b) (by kernel_rfl) (by kernel_rfl) (fun hb => ?_) (fun hb => ?_)
    ·replace h := iteT hb h
     refine z8 1 ⟨[(8, (vB true))], [(1000000, .row 3 [] (List.map cI s5515.2.2))]⟩ (by kernel_rfl) (fun τ hτ => ?_)
     refine th_ret ?_
     refine bl_ret ?_
     refine jk_ret ?_
     obtain rfl := Option.some.inj h
     exact lk_outS hτ rfl (here (by kernel_rfl))
    ·replace h := iteF hb h
     refine z4 ⟨[(0, (.row (.top 1000000) 3)), (1, (vI a)), (2, (vI b)), (3, (.fn 112 [])), (9, (vI x7707)), (10, (vI s5515.2.1))], [(1000000, .row 3 [] (List.map cI s5515.2.2))]⟩ (by kernel_rfl) ?_
     refine sem_seq (by kernel_rfl) ?_
     refine z3 4 ⟨[(0, (.row (.top 1000000) 3)), (1, (vI a)), (2, (vI b)), (3, (.fn 112 [])), (9, (vI x7707)), (10, (vI s5515.2.1)), (45, (vB (decide ((isub b a) < 50))))], [(1000000, .row 3 [] (List.map cI s5515.2.2))]⟩ (by kernel_rfl) ?_
     refine sem_cond (decide ((isub b a) < 50)) (by kernel_rfl) (by kernel_rfl) (fun hb => ?_) (fun hb => ?_)
     ·replace h := iteT hb h
      refine z8 1 ⟨[(8, (vB false))], [(1000000, .row 3 [] (List.map cI s5515.2.2))]⟩ (by kernel_rfl) (fun τ hτ => ?_)
      refine th_ret ?_
      refine bl_ret ?_
      refine jk_ret ?_
      obtain rfl := Option.some.inj h
      exact lk_outS hτ rfl (here (by kernel_rfl))
     ·replace h := iteF hb h
      refine z4 ⟨[(0, (.row (.top 1000000) 3)), (1, (vI a)), (2, (vI b)), (3, (.fn 112 [])), (9, (vI x7707)), (10, (vI s5515.2.1))], [(1000000, .row 3 [] (List.map cI s5515.2.2))]⟩ (by kernel_rfl) ?_
      refine sem_seq (by kernel_rfl) ?_
      refine sem_drawN [(15, [1000000])] [] [] [(2, [1000000]), (3, [1000000]), (4, [1000000])] [] 16 (by kernel_rfl) (by kernel_rfl) (by kernel_rfl) ?_
      refine evd_run 8 (by kernel_rfl) ?_
      obtain ⟨x7716, hx7716, h⟩ := bindS h
      refine evd_val (by kernel_rfl) (st_idxO (c := cI) (l := s5515.2.2) (i := (isub x7707 1)) (kd := .i64) (kk := (.top 1000000)) (e := 3) (sz := 1) (by kernel_rfl) (by kernel_rfl) hx7716 rfl) (by kernel_rfl) (by kernel_rfl) ?_
      refine evd_val (by kernel_rfl) (st_ldO (c := cI) (l := s5515.2.2) (i := (Int.toNat (isub x7707 1))) (v := (vI x7716)) (agg := false) (sz := 1) (kk := (.top 1000000)) (e := 3) (off := 0) (J := []) (by kernel_rfl) (by kernel_rfl) (by kernel_rfl) ((idxS hx7716).2) (by kernel_rfl)) (by kernel_rfl) (by kernel_rfl) ?_
      refine evd_run 2 (by kernel_rfl) ?_
      obtain ⟨x7717, hx7717, h⟩ := bindS h
      refine evd_val (by kernel_rfl) (st_idxO (c := cI) (l := s5515.2.2) (i := x7707) (kd := .i64) (kk := (.top 1000000)) (e := 3) (sz := 1) (by kernel_rfl) (by kernel_rfl) hx7717 rfl) (by kernel_rfl) (by kernel_rfl) ?_
      refine evd_val (by kernel_rfl) (st_ldO (c := cI) (l := s5515.2.2) (i := (Int.toNat x7707)) (v := (vI x7717)) (agg := false) (sz := 1) (kk := (.top 1000000)) (e := 3) (off := 0) (J := []) (by kernel_rfl) (by kernel_rfl) (by kernel_rfl) ((idxS hx7717).2) (by kernel_rfl)) (by kernel_rfl) (by kernel_rfl) ?_
      obtain ⟨x7718, hx7718, h⟩ := bindS h
      refine evd_val (by kernel_rfl) (st_idxO (c := cI) (l := s5515.2.2) (i := x7707) (kd := .i64) (kk := (.top 1000000)) (e := 3) (sz := 1) (by kernel_rfl) (by kernel_rfl) hx7718 rfl) (by kernel_rfl) (by kernel_rfl) ?_
      refine evd_set (by kernel_rfl) (st_stO (c := cI) (l := s5515.2.2) (i := (Int.toNat x7707)) (x := x7718) (x' := x7716) (v := (vI x7716)) (agg := false) (sz := 1) (kk := (.top 1000000)) (e := 3) (off := 0) (J := []) (o := .row 3 [] (List.map cI (List.set s5515.2.2 (Int.toNat x7707) x7716))) (by kernel_rfl) (by kernel_rfl) (by kernel_rfl) ((idxS hx7718).2) (by kernel_rfl) (by kernel_rfl) (by kernel_rfl)) (by kernel_rfl) (by kernel_rfl) (by kernel_rfl) ?_
      refine evd_end (by kernel_rfl) ?_
      obtain ⟨x7719, hx7719, h⟩ := bindS h
      refine evo_op (st_idxO (c := cI) (l := (List.set s5515.2.2 (Int.toNat x7707) x7716)) (i := (isub x7707 1)) (kd := .i64) (kk := (.top 1000000)) (e := 3) (sz := 1) (by kernel_rfl) (by kernel_rfl) hx7719 rfl) ?_
      refine evo_op (st_stO (c := cI) (l := (List.set s5515.2.2 (Int.toNat x7707) x7716)) (i := (Int.toNat (isub x7707 1))) (x := x7719) (x' := x7717) (v := (vI x7717)) (agg := false) (sz := 1) (kk := (.top 1000000)) (e := 3) (off := 0) (J := []) (o := .row 3 [] (List.map cI (List.set (List.set s5515.2.2 (Int.toNat x7707) x7716) (Int.toNat (isub x7707 1)) x7717))) (by kernel_rfl) (by kernel_rfl) (by kernel_rfl) ((idxS hx7719).2) (by kernel_rfl) (by kernel_rfl) (by kernel_rfl)) ?_
      refine evo_endS (by kernel_rfl) (fun τ hτ => ?_)
      refine th_normalS hτ ⟨[(0, (.row (.top 1000000) 3)), (1, (vI a)), (2, (vI b)), (3, (.fn 112 [])), (9, (vI x7707)), (10, (vI s5515.2.1))], [(1000000, .row 3 [] (List.map cI (List.set (List.set s5515.2.2 (Int.toNat x7707) x7716) (Int.toNat (isub x7707 1)) x7717)))]⟩ (here (by kernel_rfl)) ?_
      refine sem_seqJ (fun (j7903 : (List Int)) => ⟨[(0, (.row (.top 1000000) 3)), (1, (vI a)), (2, (vI b)), (3, (.fn 112 [])), (9, (vI x7707)), (10, (vI s5515.2.1))], [(1000000, .row 3 [] (List.map cI j7903))]⟩) (slices_partialInsertionSortCmpFunc_int__cmp_Compare_int_k4 b s5515 x7707) r (by kernel_rfl) (fun j7903 h => ?_) ?_
      ·refine z3 4 ⟨[(0, (.row (.top 1000000) 3)), (1, (vI a)), (2, (vI b)), (3, (.fn 112 [])), (9, (vI x7707)), (10, (vI s5515.2.1)), (104, (vB (decide ((isub b x7707) ≥ 2))))], [(1000000, .row 3 [] (List.map cI j7903))]⟩ (by kernel_rfl) ?_
       refine sem_cond (decide ((isub b x7707) ≥ 2)) (by kernel_rfl) (by kernel_rfl) (fun hb => ?_) (fun hb => ?_)
       ·replace h := iteT hb h
        refine z3 3 ⟨[(0, (.row (.top 1000000) 3)), (1, (vI a)), (2, (vI b)), (3, (.fn 112 [])), (9, (vI x7707)), (10, (vI s5515.2.1)), (12, (vI (iadd x7707 1)))], [(1000000, .row 3 [] (List.map cI j7903))]⟩ (by kernel_rfl) ?_
        refine sem_block (by kernel_rfl) ?_
        obtain ⟨x8086, hx8086, h⟩ := bindS h
        refine sem_loopS (fun (s7965 : Int × (List Int)) => ⟨[(0, (.row (.top 1000000) 3)), (1, (vI a)), (2, (vI b)), (3, (.fn 112 [])), (9, (vI x7707)), (10, (vI s5515.2.1)), (12, (vI s7965.1))], [(1000000, .row 3 [] (List.map cI s7965.2))]⟩) (fun (x8086 : (List Int)) => (.exit 6, ⟨[(0, (.row (.top 1000000) 3)), (1, (vI a)), (2, (vI b)), (3, (.fn 112 [])), (9, (vI x7707)), (10, (vI s5515.2.1))], [(1000000, .row 3 [] (List.map cI x8086))]⟩)) (slices_partialInsertionSortCmpFunc_int__cmp_Compare_int_l3 b) ((iadd x7707 1), j7903) x8086 (by kernel_rfl) (here (by kernel_rfl)) hx8086 ?_ ?_ ?_
        ·intro s7965 r h
         refine sem_seq (by kernel_rfl) ?_
         refine z3 3 ⟨[(0, (.row (.top 1000000) 3)), (1, (vI a)), (2, (vI b)), (3, (.fn 112 [])), (9, (vI x7707)), (10, (vI s5515.2.1)), (12, (vI s7965.1)), (109, (vB (decide (s7965.1 < b))))], [(1000000, .row 3 [] (List.map cI s7965.2))]⟩ (by kernel_rfl) ?_
         refine sem_cond (decide (s7965.1 < b)) (by kernel_rfl) (by kernel_rfl) (fun hb => ?_) (fun hb => ?_)
         ·replace h := iteT hb h
          refine z4 ⟨[(0, (.row (.top 1000000) 3)), (1, (vI a)), (2, (vI b)), (3, (.fn 112 [])), (9, (vI x7707)), (10, (vI s5515.2.1)), (12, (vI s7965.1))], [(1000000, .row 3 [] (List.map cI s7965.2))]⟩ (by kernel_rfl) ?_
          refine sem_seq (by kernel_rfl) ?_
          refine sem_block (by kernel_rfl) ?_
          refine sem_seq (by kernel_rfl) ?_
          refine sem_seq (by kernel_rfl) ?_
          refine sem_drawN [] [] [] [] [] 10 (by kernel_rfl) (by kernel_rfl) (by kernel_rfl) ?_
          refine evd_run 3 (by kernel_rfl) ?_
          obtain ⟨x8071, hx8071, h⟩ := bindS h
          refine evd_val (by kernel_rfl) (st_idxO (c := cI) (l := s7965.2) (i := s7965.1) (kd := .i64) (kk := (.top 1000000)) (e := 3) (sz := 1) (by kernel_rfl) (by kernel_rfl) hx8071 rfl) (by kernel_rfl) (by kernel_rfl) ?_
          refine evd_val (by kernel_rfl) (st_ldO (c := cI) (l := s7965.2) (i := (Int.toNat s7965.1)) (v := (vI x8071)) (agg := false) (sz := 1) (kk := (.top 1000000)) (e := 3) (off := 0) (J := []) (by kernel_rfl) (by kernel_rfl) (by kernel_rfl) ((idxS hx8071).2) (by kernel_rfl)) (by kernel_rfl) (by kernel_rfl) ?_
          refine evd_run 3 (by kernel_rfl) ?_
          obtain ⟨x8072, hx8072, h⟩ := bindS h
          refine evd_val (by kernel_rfl) (st_idxO (c := cI) (l := s7965.2) (i := (isub s7965.1 1)) (kd := .i64) (kk := (.top 1000000)) (e := 3) (sz := 1) (by kernel_rfl) (by kernel_rfl) hx8072 rfl) (by kernel_rfl) (by kernel_rfl) ?_
          refine evd_val (by kernel_rfl) (st_ldO (c := cI) (l := s7965.2) (i := (Int.toNat (isub s7965.1 1))) (v := (vI x8072)) (agg := false) (sz := 1) (kk := (.top 1000000)) (e := 3) (off := 0) (J := []) (by kernel_rfl) (by kernel_rfl) (by kernel_rfl) ((idxS hx8072).2) (by kernel_rfl)) (by kernel_rfl) (by kernel_rfl) ?_
          refine evd_end (by kernel_rfl) ?_
          obtain ⟨r8073, hr8073, h⟩ := bindS h
          refine evo_callP [] (by kernel_rfl) (W.cmp_Compare_int_ok hr8073) (by kernel_rfl) (.inl rfl) (by kernel_rfl) ?_
          refine evo_run 2 (by kernel_rfl) ?_
          refine evo_endS (by kernel_rfl) (fun τ hτ => ?_)
          refine th_normalS hτ ⟨[(0, (.row (.top 1000000) 3)), (1, (vI a)), (2, (vI b)), (3, (.fn 112 [])), (9, (vI x7707)), (10, (vI s5515.2.1)), (12, (vI s7965.1)), (124, (vB (!(decide (r8073 < 0)))))], [(1000000, .row 3 [] (List.map cI s7965.2))]⟩ (here (by kernel_rfl)) ?_
          refine sem_cond (!(decide (r8073 < 0))) (by kernel_rfl) (by kernel_rfl) (fun hb => ?_) (fun hb => ?_)
          ·replace h := iteT hb h
           refine sem_exitS 6 (by kernel_rfl) rfl (fun τ hτ => ?_)
           refine th_exit ?_
           refine bl_miss (by kernel_rfl) ?_
           refine th_exit ?_
           obtain rfl := Option.some.inj h
           exact lk_outS hτ rfl (here (by kernel_rfl))
          ·replace h := iteF hb h
           refine z4 ⟨[(0, (.row (.top 1000000) 3)), (1, (vI a)), (2, (vI b)), (3, (.fn 112 [])), (9, (vI x7707)), (10, (vI s5515.2.1)), (12, (vI s7965.1))], [(1000000, .row 3 [] (List.map cI s7965.2))]⟩ (by kernel_rfl) ?_
           refine sem_drawN [(15, [1000000])] [] [] [(2, [1000000]), (3, [1000000]), (4, [1000000])] [] 16 (by kernel_rfl) (by kernel_rfl) (by kernel_rfl) ?_
           refine evd_run 8 (by kernel_rfl) ?_
           obtain ⟨x8082, hx8082, h⟩ := bindS h
           refine evd_val (by kernel_rfl) (st_idxO (c := cI) (l := s7965.2) (i := (isub s7965.1 1)) (kd := .i64) (kk := (.top 1000000)) (e := 3) (sz := 1) (by kernel_rfl) (by kernel_rfl) hx8082 rfl) (by kernel_rfl) (by kernel_rfl) ?_
           refine evd_val (by kernel_rfl) (st_ldO (c := cI) (l := s7965.2) (i := (Int.toNat (isub s7965.1 1))) (v := (vI x8082)) (agg := false) (sz := 1) (kk := (.top 1000000)) (e := 3) (off := 0) (J := []) (by kernel_rfl) (by kernel_rfl) (by kernel_rfl) ((idxS hx8082).2) (by kernel_rfl)) (by kernel_rfl) (by kernel_rfl) ?_
           refine evd_run 2 (by kernel_rfl) ?_
           obtain ⟨x8083, hx8083, h⟩ := bindS h
           refine evd_val (by kernel_rfl) (st_idxO (c := cI) (l := s7965.2) (i := s7965.1) (kd := .i64) (kk := (.top 1000000)) (e := 3) (sz := 1) (by kernel_rfl) (by kernel_rfl) hx8083 rfl) (by kernel_rfl) (by kernel_rfl) ?_
           refine evd_val (by kernel_rfl) (st_ldO (c := cI) (l := s7965.2) (i := (Int.toNat s7965.1)) (v := (vI x8083)) (agg := false) (sz := 1) (kk := (.top 1000000)) (e := 3) (off := 0) (J := []) (by kernel_rfl) (by kernel_rfl) (by kernel_rfl) ((idxS hx8083).2) (by kernel_rfl)) (by kernel_rfl) (by kernel_rfl) ?_
           obtain ⟨x8084, hx8084, h⟩ := bindS h
           refine evd_val (by kernel_rfl) (st_idxO (c := cI) (l := s7965.2) (i := s7965.1) (kd := .i64) (kk := (.top 1000000)) (e := 3) (sz := 1) (by kernel_rfl) (by kernel_rfl) hx8084 rfl) (by kernel_rfl) (by kernel_rfl) ?_
           refine evd_set (by kernel_rfl) (st_stO (c := cI) (l := s7965.2) (i := (Int.toNat s7965.1)) (x := x8084) (x' := x8082) (v := (vI x8082)) (agg := false) (sz := 1) (kk := (.top 1000000)) (e := 3) (off := 0) (J := []) (o := .row 3 [] (List.map cI (List.set s7965.2 (Int.toNat s7965.1) x8082))) (by kernel_rfl) (by kernel_rfl) (by kernel_rfl) ((idxS hx8084).2) (by kernel_rfl) (by kernel_rfl) (by kernel_rfl)) (by kernel_rfl) (by kernel_rfl) (by kernel_rfl) ?_
           refine evd_end (by kernel_rfl) ?_
           obtain ⟨x8085, hx8085, h⟩ := bindS h
           refine evo_op (st_idxO (c := cI) (l := (List.set s7965.2 (Int.toNat s7965.1) x8082)) (i := (isub s7965.1 1)) (kd := .i64) (kk := (.top 1000000)) (e := 3) (sz := 1) (by kernel_rfl) (by kernel_rfl) hx8085 rfl) ?_
           refine evo_op (st_stO (c := cI) (l := (List.set s7965.2 (Int.toNat s7965.1) x8082)) (i := (Int.toNat (isub s7965.1 1))) (x := x8085) (x' := x8083) (v := (vI x8083)) (agg := false) (sz := 1) (kk := (.top 1000000)) (e := 3) (off := 0) (J := []) (o := .row 3 [] (List.map cI (List.set (List.set s7965.2 (Int.toNat s7965.1) x8082) (Int.toNat (isub s7965.1 1)) x8083))) (by kernel_rfl) (by kernel_rfl) (by kernel_rfl) ((idxS hx8085).2) (by kernel_rfl) (by kernel_rfl) (by kernel_rfl)) ?_
           refine evo_endS (by kernel_rfl) (fun τ hτ => ?_)
           refine bl_normal ?_
           refine th_normalS hτ ⟨[(0, (.row (.top 1000000) 3)), (1, (vI a)), (2, (vI b)), (3, (.fn 112 [])), (9, (vI x7707)), (10, (vI s5515.2.1)), (12, (vI s7965.1))], [(1000000, .row 3 [] (List.map cI (List.set (List.set s7965.2 (Int.toNat s7965.1) x8082) (Int.toNat (isub s7965.1 1)) x8083)))]⟩ (here (by kernel_rfl)) ?_
           refine sem_region (by kernel_rfl) ?_
           refine z6 3 (by kernel_rfl) (fun τ hτ => ?_)
           obtain rfl := Option.some.inj h
           exact lk_nextS hτ (here (by kernel_rfl))
         ·replace h := iteF hb h
          refine sem_exitS 6 (by kernel_rfl) rfl (fun τ hτ => ?_)
          refine th_exit ?_
          obtain rfl := Option.some.inj h
          exact lk_outS hτ rfl (here (by kernel_rfl))
        ·intro x
         rfl
        ·intro τ hτ
         refine bl_hit (by kernel_rfl) ?_
         refine bl_normal ?_
         exact jk_normal (x7707, x8086) h hτ (here (by kernel_rfl))
       ·replace h := iteF hb h
        refine sem_skipS (by kernel_rfl) (fun τ hτ => ?_)
        refine bl_normal ?_
        exact jk_normal (x7707, j7903) h hτ (here (by kernel_rfl))
      refine z3 4 ⟨[(0, (.row (.top 1000000) 3)), (1, (vI a)), (2, (vI b)), (3, (.fn 112 [])), (9, (vI x7707)), (10, (vI s5515.2.1)), (65, (vB (decide ((isub x7707 a) ≥ 2))))], [(1000000, .row 3 [] (List.map cI (List.set (List.set s5515.2.2 (Int.toNat x7707) x7716) (Int.toNat (isub x7707 1)) x7717)))]⟩ (by kernel_rfl) ?_
      refine sem_cond (decide ((isub x7707 a) ≥ 2)) (by kernel_rfl) (by kernel_rfl) (fun hb => ?_) (fun hb => ?_)
      ·replace h := iteT hb h
       refine z3 3 ⟨[(0, (.row (.top 1000000) 3)), (1, (vI a)), (2, (vI b)), (3, (.fn 112 [])), (9, (vI x7707)), (10, (vI s5515.2.1)), (11, (vI (isub x7707 1)))], [(1000000, .row 3 [] (List.map cI (List.set (List.set s5515.2.2 (Int.toNat x7707) x7716) (Int.toNat (isub x7707 1)) x7717)))]⟩ (by kernel_rfl) ?_
       refine sem_block (by kernel_rfl) ?_
       obtain ⟨x8269, hx8269, h⟩ := bindS h
       refine sem_loopS (fun (s8148 : Int × (List Int)) => ⟨[(0, (.row (.top 1000000) 3)), (1, (vI a)), (2, (vI b)), (3, (.fn 112 [])), (9, (vI x7707)), (10, (vI s5515.2.1)), (11, (vI s8148.1))], [(1000000, .row 3 [] (List.map cI s8148.2))]⟩) (fun (x8269 : (List Int)) => (.exit 4, ⟨[(0, (.row (.top 1000000) 3)), (1, (vI a)), (2, (vI b)), (3, (.fn 112 [])), (9, (vI x7707)), (10, (vI s5515.2.1))], [(1000000, .row 3 [] (List.map cI x8269))]⟩)) (slices_partialInsertionSortCmpFunc_int__cmp_Compare_int_l5) ((isub x7707 1), (List.set (List.set s5515.2.2 (Int.toNat x7707) x7716) (Int.toNat (isub x7707 1)) x7717)) x8269 (by kernel_rfl) (here (by kernel_rfl)) hx8269 ?_ ?_ ?_
       ·intro s8148 r h
        refine sem_seq (by kernel_rfl) ?_
        refine z3 2 ⟨[(0, (.row (.top 1000000) 3)), (1, (vI a)), (2, (vI b)), (3, (.fn 112 [])), (9, (vI x7707)), (10, (vI s5515.2.1)), (11, (vI s8148.1)), (69, (vB (decide (s8148.1 ≥ 1))))], [(1000000, .row 3 [] (List.map cI s8148.2))]⟩ (by kernel_rfl) ?_
        refine sem_cond (decide (s8148.1 ≥ 1)) (by kernel_rfl) (by kernel_rfl) (fun hb => ?_) (fun hb => ?_)
        ·replace h := iteT hb h
         refine z4 ⟨[(0, (.row (.top 1000000) 3)), (1, (vI a)), (2, (vI b)), (3, (.fn 112 [])), (9, (vI x7707)), (10, (vI s5515.2.1)), (11, (vI s8148.1))], [(1000000, .row 3 [] (List.map cI s8148.2))]⟩ (by kernel_rfl) ?_
         refine sem_seq (by kernel_rfl) ?_
         refine sem_block (by kernel_rfl) ?_
         refine sem_seq (by kernel_rfl) ?_
         refine sem_seq (by kernel_rfl) ?_
         refine sem_drawN [] [] [] [] [] 10 (by kernel_rfl) (by kernel_rfl) (by kernel_rfl) ?_
         refine evd_run 3 (by kernel_rfl) ?_
         obtain ⟨x8254, hx8254, h⟩ := bindS h
         refine evd_val (by kernel_rfl) (st_idxO (c := cI) (l := s8148.2) (i := s8148.1) (kd := .i64) (kk := (.top 1000000)) (e := 3) (sz := 1) (by kernel_rfl) (by kernel_rfl) hx8254 rfl) (by kernel_rfl) (by kernel_rfl) ?_
         refine evd_val (by kernel_rfl) (st_ldO (c := cI) (l := s8148.2) (i := (Int.toNat s8148.1)) (v := (vI x8254)) (agg := false) (sz := 1) (kk := (.top 1000000)) (e := 3) (off := 0) (J := []) (by kernel_rfl) (by kernel_rfl) (by kernel_rfl) ((idxS hx8254).2) (by kernel_rfl)) (by kernel_rfl) (by kernel_rfl) ?_
         refine evd_run 3 (by kernel_rfl) ?_
         obtain ⟨x8255, hx8255, h⟩ := bindS h
         refine evd_val (by kernel_rfl) (st_idxO (c := cI) (l := s8148.2) (i := (isub s8148.1 1)) (kd := .i64) (kk := (.top 1000000)) (e := 3) (sz := 1) (by kernel_rfl) (by kernel_rfl) hx8255 rfl) (by kernel_rfl) (by kernel_rfl) ?_
         refine evd_val (by kernel_rfl) (st_ldO (c := cI) (l := s8148.2) (i := (Int.toNat (isub s8148.1 1))) (v := (vI x8255)) (agg := false) (sz := 1) (kk := (.top 1000000)) (e := 3) (off := 0) (J := []) (by kernel_rfl) (by kernel_rfl) (by kernel_rfl) ((idxS hx8255).2) (by kernel_rfl)) (by kernel_rfl) (by kernel_rfl) ?_
         refine evd_end (by kernel_rfl) ?_
         obtain ⟨r8256, hr8256, h⟩ := bindS h
         refine evo_callP [] (by kernel_rfl) (W.cmp_Compare_int_ok hr8256) (by kernel_rfl) (.inl rfl) (by kernel_rfl) ?_
         refine evo_run 2 (by kernel_rfl) ?_
         refine evo_endS (by kernel_rfl) (fun τ hτ => ?_)
         refine th_normalS hτ ⟨[(0, (.row (.top 1000000) 3)), (1, (vI a)), (2, (vI b)), (3, (.fn 112 [])), (9, (vI x7707)), (10, (vI s5515.2.1)), (11, (vI s8148.1)), (84, (vB (!(decide (r8256 < 0)))))], [(1000000, .row 3 [] (List.map cI s8148.2))]⟩ (here (by kernel_rfl)) ?_
         refine sem_cond (!(decide (r8256 < 0))) (by kernel_rfl) (by kernel_rfl) (fun hb => ?_) (fun hb => ?_)
         ·replace h := iteT hb h
          refine sem_exitS 4 (by kernel_rfl) rfl (fun τ hτ => ?_)
          refine th_exit ?_
          refine bl_miss (by kernel_rfl) ?_
          refine th_exit ?_
          obtain rfl := Option.some.inj h
          exact lk_outS hτ rfl (here (by kernel_rfl))
         ·replace h := iteF hb h
          refine z4 ⟨[(0, (.row (.top 1000000) 3)), (1, (vI a)), (2, (vI b)), (3, (.fn 112 [])), (9, (vI x7707)), (10, (vI s5515.2.1)), (11, (vI s8148.1))], [(1000000, .row 3 [] (List.map cI s8148.2))]⟩ (by kernel_rfl) ?_
          refine sem_drawN [(15, [1000000])] [] [] [(2, [1000000]), (3, [1000000]), (4, [1000000])] [] 16 (by kernel_rfl) (by kernel_rfl) (by kernel_rfl) ?_
          refine evd_run 8 (by kernel_rfl) ?_
          obtain ⟨x8265, hx8265, h⟩ := bindS h
          refine evd_val (by kernel_rfl) (st_idxO (c := cI) (l := s8148.2) (i := (isub s8148.1 1)) (kd := .i64) (kk := (.top 1000000)) (e := 3) (sz := 1) (by kernel_rfl) (by kernel_rfl) hx8265 rfl) (by kernel_rfl) (by kernel_rfl) ?_
          refine evd_val (by kernel_rfl) (st_ldO (c := cI) (l := s8148.2) (i := (Int.toNat (isub s8148.1 1))) (v := (vI x8265)) (agg := false) (sz := 1) (kk := (.top 1000000)) (e := 3) (off := 0) (J := []) (by kernel_rfl) (by kernel_rfl) (by kernel_rfl) ((idxS hx8265).2) (by kernel_rfl)) (by kernel_rfl) (by kernel_rfl) ?_
          refine evd_run 2 (by kernel_rfl) ?_
          obtain ⟨x8266, hx8266, h⟩ := bindS h
          refine evd_val (by kernel_rfl) (st_idxO (c := cI) (l := s8148.2) (i := s8148.1) (kd := .i64) (kk := (.top 1000000)) (e := 3) (sz := 1) (by kernel_rfl) (by kernel_rfl) hx8266 rfl) (by kernel_rfl) (by kernel_rfl) ?_
          refine evd_val (by kernel_rfl) (st_ldO (c := cI) (l := s8148.2) (i := (Int.toNat s8148.1)) (v := (vI x8266)) (agg := false) (sz := 1) (kk := (.top 1000000)) (e := 3) (off := 0) (J := []) (by kernel_rfl) (by kernel_rfl) (by kernel_rfl) ((idxS hx8266).2) (by kernel_rfl)) (by kernel_rfl) (by kernel_rfl) ?_
          obtain ⟨x8267, hx8267, h⟩ := bindS h
          refine evd_val (by kernel_rfl) (st_idxO (c := cI) (l := s8148.2) (i := s8148.1) (kd := .i64) (kk := (.top 1000000)) (e := 3) (sz := 1) (by kernel_rfl) (by kernel_rfl) hx8267 rfl) (by kernel_rfl) (by kernel_rfl) ?_
          refine evd_set (by kernel_rfl) (st_stO (c := cI) (l := s8148.2) (i := (Int.toNat s8148.1)) (x := x8267) (x' := x8265) (v := (vI x8265)) (agg := false) (sz := 1) (kk := (.top 1000000)) (e := 3) (off := 0) (J := []) (o := .row 3 [] (List.map cI (List.set s8148.2 (Int.toNat s8148.1) x8265))) (by kernel_rfl) (by kernel_rfl) (by kernel_rfl) ((idxS hx8267).2) (by kernel_rfl) (by kernel_rfl) (by kernel_rfl)) (by kernel_rfl) (by kernel_rfl) (by kernel_rfl) ?_
          refine evd_end (by kernel_rfl) ?_
          obtain ⟨x8268, hx8268, h⟩ := bindS h
          refine evo_op (st_idxO (c := cI) (l := (List.set s8148.2 (Int.toNat s8148.1) x8265)) (i := (isub s8148.1 1)) (kd := .i64) (kk := (.top 1000000)) (e := 3) (sz := 1) (by kernel_rfl) (by kernel_rfl) hx8268 rfl) ?_
          refine evo_op (st_stO (c := cI) (l := (List.set s8148.2 (Int.toNat s8148.1) x8265)) (i := (Int.toNat (isub s8148.1 1))) (x := x8268) (x' := x8266) (v := (vI x8266)) (agg := false) (sz := 1) (kk := (.top 1000000)) (e := 3) (off := 0) (J := []) (o := .row 3 [] (List.map cI (List.set (List.set s8148.2 (Int.toNat s8148.1) x8265) (Int.toNat (isub s8148.1 1)) x8266))) (by kernel_rfl) (by kernel_rfl) (by kernel_rfl) ((idxS hx8268).2) (by kernel_rfl) (by kernel_rfl) (by kernel_rfl)) ?_
          refine evo_endS (by kernel_rfl) (fun τ hτ => ?_)
          refine bl_normal ?_
          refine th_normalS hτ ⟨[(0, (.row (.top 1000000) 3)), (1, (vI a)), (2, (vI b)), (3, (.fn 112 [])), (9, (vI x7707)), (10, (vI s5515.2.1)), (11, (vI s8148.1))], [(1000000, .row 3 [] (List.map cI (List.set (List.set s8148.2 (Int.toNat s8148.1) x8265) (Int.toNat (isub s8148.1 1)) x8266)))]⟩ (here (by kernel_rfl)) ?_
          refine sem_region (by kernel_rfl) ?_
          refine z6 3 (by kernel_rfl) (fun τ hτ => ?_)
          obtain rfl := Option.some.inj h
          exact lk_nextS hτ (here (by kernel_rfl))
        ·replace h := iteF hb h
         refine sem_exitS 4 (by kernel_rfl) rfl (fun τ hτ => ?_)
         refine th_exit ?_
         obtain rfl := Option.some.inj h
         exact lk_outS hτ rfl (here (by kernel_rfl))
       ·intro x
        rfl
       ·intro τ hτ
        refine bl_hit (by kernel_rfl) ?_
        exact jk_normal x8269 h hτ (here (by kernel_rfl))
      ·replace h := iteF hb h
       refine sem_skipS (by kernel_rfl) (fun τ hτ => ?_)
       exact jk_normal (List.set (List.set s5515.2.2 (Int.toNat x7707) x7716) (Int.toNat (isub x7707 1)) x7717) h hτ (here (by kernel_rfl))
  ·replace h := iteF hb h
   refine sem_exitS 0 (by kernel_rfl) rfl (fun τ hτ => ?_)
   refine th_exit ?_
   obtain rfl := Option.some.inj h
   exact lk_outS hτ rfl (here (by kernel_rfl))
 ·intro x
  rcases x with _ | _ <;> rfl
 ·intro τ hτ
  rcases x8270 with j8271 | j8272
  ·refine bl_ret ?_
   refine th_ret ?_
   obtain rfl := Option.some.inj h
   exact rk_ret hτ [(8, (vB j8271.1))] (here (by kernel_rfl)) (by kernel_rfl)
  ·refine bl_hit (by kernel_rfl) ?_
   refine th_normalS hτ ⟨[], [(1000000, .row 3 [] (List.map cI j8272))]⟩ (here (by kernel_rfl)) ?_
   refine z8 1 ⟨[(8, (vB false))], [(1000000, .row 3 [] (List.map cI j8272))]⟩ (by kernel_rfl) (fun τ hτ => ?_)
   obtain rfl := Option.some.inj h
   exact rk_ret hτ [(8, (vB false))] (here (by kernel_rfl)) (by kernel_rfl)
end Go.Proofs.Ytiodkdpfkchkjaa
