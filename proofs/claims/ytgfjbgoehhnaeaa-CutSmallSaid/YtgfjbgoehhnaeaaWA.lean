/- Each Go function does what its model says; written by a program out of the translation. -/
import Derived.Test.YtgfjbgoehhnaeaaBase
import Derived.Test.YtgfjbgoehhnaeaaCaMA
set_option linter.unusedVariables false
set_option linter.unusedSimpArgs false
set_option linter.unusedSectionVars false
namespace Go.Proofs.Ytgfjbgoehhnaeaa
open Go Go.VI Go.SM Go.Proofs
set_option maxRecDepth 100000
set_option maxHeartbeats 4000000
theorem W.strings_Contains_ok {s sub : ByteArray} {r : Bool} (h : strings_Contains s sub = some r) : PC G.P 75 [vS s, vS sub] [] (vB r) [] := by
 unfold strings_Contains at h
 split at h
 ·rename_i hs
  injection h with h; subst h
  exact pc_pure (args := [.string s, .string sub]) (by kernel_rfl) 0 (by kernel_rfl) fun m w hm => Any.strings_Contains Try.contains_lays s sub m w hs hm
 ·cases h
theorem W.part_ValidName_k_ok {s0 : ByteArray} {r : Bool} (h : part_ValidName_k s0 = some r) : PC G.P 61 [(vS s0)] [] (vB r) [] := by
 refine pc_of G (fn := Try.f61) Try.func61 (by kernel_rfl) (by kernel_rfl) (by kernel_rfl) (by kernel_rfl) (by kernel_rfl) ?_
 refine sem_set ⟨[(0, (vS s0))], []⟩ (by kernel_rfl) ?_
 refine z3 1 ⟨[(0, (vS s0))], []⟩ (by kernel_rfl) ?_
 refine sem_seq (by kernel_rfl) ?_
 refine z7 (by kernel_rfl) ?_
 refine evs_run 4 (by kernel_rfl) ?_
 refine evs_split (decide ((s0.size : Int) < 1)) (fun b0 => ⟨[(0, (vS s0)), (8, (vB b0))], []⟩) (by kernel_rfl) (fun hb => ?_) (fun hb => ?_)
 ·replace h := iteT hb h
  exact nomatch h
 ·replace h := iteF hb h
  refine evs_run 5 (by kernel_rfl) ?_
  refine evs_split (decide ((s0.size : Int) > 8)) (fun b0 => ⟨[(0, (vS s0)), (13, (vB b0))], []⟩) (by kernel_rfl) (fun hb => ?_) (fun hb => ?_)
  ·replace h := iteT hb h
   exact nomatch h
  ·replace h := iteF hb h
   refine evs_run 1 (by kernel_rfl) ?_
   obtain ⟨x7, hx7, h⟩ := bindS h
   refine evs_at (at_sidx (s := s0) (i := 0) (kd := .i64) (by kernel_rfl) hx7) ?_
   refine evs_run 3 (by kernel_rfl) ?_
   refine evs_split (decide (x7 < 97)) (fun b0 => ⟨[(0, (vS s0)), (18, (vB b0))], []⟩) (by kernel_rfl) (fun hb => ?_) (fun hb => ?_)
   ·replace h := iteT hb h
    exact nomatch h
   ·replace h := iteF hb h
    refine evs_run 1 (by kernel_rfl) ?_
    obtain ⟨x8, hx8, h⟩ := bindS h
    refine evs_at (at_sidx (s := s0) (i := 0) (kd := .i64) (by kernel_rfl) hx8) ?_
    refine z1 2 ⟨[(0, (vS s0)), (22, (vB (decide (x8 > 122))))], []⟩ (by kernel_rfl) ?_
    refine sem_cond (decide (x8 > 122)) (by kernel_rfl) (by kernel_rfl) (fun hb => ?_) (fun hb => ?_)
    ·replace h := iteT hb h
     exact nomatch h
    ·replace h := iteF hb h
     refine z4 ⟨[(0, (vS s0))], []⟩ (by kernel_rfl) ?_
     refine sem_seq (by kernel_rfl) ?_
     refine z3 3 ⟨[(0, (vS s0)), (24, (vI (s0.size : Int))), (25, (vI 0))], []⟩ (by kernel_rfl) ?_
     refine sem_block (by kernel_rfl) ?_
     obtain ⟨x38, hx38, h⟩ := bindS h
     refine sem_loopS (fun (s29 : Int) => ⟨[(0, (vS s0)), (24, (vI (s0.size : Int))), (25, (vI s29))], []⟩) (fun (x38 : Unit) => (.exit 0, ⟨[(0, (vS s0))], []⟩)) (part_ValidName_k_l1 s0) 0 x38 (by kernel_rfl) (here (by kernel_rfl)) (iter_loop hx38) ?_ ?_ ?_
     ·intro s29 r h
      refine z3 1 ⟨[(0, (vS s0)), (24, (vI (s0.size : Int))), (25, (vI s29)), (26, (vB (decide (s29 < (s0.size : Int)))))], []⟩ (by kernel_rfl) ?_
      refine sem_seq (by kernel_rfl) ?_
      refine sem_cond (decide (s29 < (s0.size : Int))) (by kernel_rfl) (by kernel_rfl) (fun hb => ?_) (fun hb => ?_)
      ·replace h := iteT hb h
       refine z4 ⟨[(0, (vS s0)), (24, (vI (s0.size : Int))), (25, (vI s29))], []⟩ (by kernel_rfl) ?_
       refine sem_seq (by kernel_rfl) ?_
       refine sem_block (by kernel_rfl) ?_
       refine z3 2 ⟨[(0, (vS s0)), (3, (vI s29)), (24, (vI (s0.size : Int))), (25, (vI s29))], []⟩ (by kernel_rfl) ?_
       refine z7 (by kernel_rfl) ?_
       refine evs_run 2 (by kernel_rfl) ?_
       obtain ⟨x37, hx37, h⟩ := bindS h
       refine evs_at (at_sidx (s := s0) (i := s29) (kd := .i64) (by kernel_rfl) hx37) ?_
       refine z1 1 ⟨[(0, (vS s0)), (4, (vK .u8 x37)), (24, (vI (s0.size : Int))), (25, (vI s29))], []⟩ (by kernel_rfl) ?_
       refine z7 (by kernel_rfl) ?_
       refine evs_run 3 (by kernel_rfl) ?_
       refine evs_split (decide (x37 < 97)) (fun b0 => ⟨[(0, (vS s0)), (4, (vK .u8 x37)), (24, (vI (s0.size : Int))), (25, (vI s29)), (33, (vB b0))], []⟩) (by kernel_rfl) (fun hb => ?_) (fun hb => ?_)
       ·replace h := iteT hb h
        exact nomatch h
       ·replace h := iteF hb h
        refine evs_run 4 (by kernel_rfl) ?_
        refine evs_split (decide (x37 > 122)) (fun b0 => ⟨[(0, (vS s0)), (4, (vK .u8 x37)), (24, (vI (s0.size : Int))), (25, (vI s29)), (34, (vK .u8 x37)), (35, (vB b0)), (37, (vB b0))], []⟩) (by kernel_rfl) (fun hb => ?_) (fun hb => ?_)
        ·replace h := iteT hb h
         exact nomatch h
        ·replace h := iteF hb h
         refine z1 7 ⟨[(0, (vS s0)), (24, (vI (s0.size : Int))), (25, (vI s29)), (34, (vK .u8 x37)), (35, (vB false)), (38, vU), (39, vU), (40, vU), (41, vU), (42, vU), (43, vU), (44, (vB false))], []⟩ (by kernel_rfl) ?_
         refine sem_condF (by kernel_rfl) (by kernel_rfl) ?_
         refine sem_skipS (by kernel_rfl) (fun τ hτ => ?_)
         refine bl_normal ?_
         refine th_normalS hτ ⟨[(0, (vS s0)), (24, (vI (s0.size : Int))), (25, (vI s29)), (34, (vK .u8 x37)), (35, (vB false)), (38, vU), (39, vU), (40, vU), (41, vU), (42, vU), (43, vU)], []⟩ (here (by kernel_rfl)) ?_
         refine sem_region (by kernel_rfl) ?_
         refine z6 2 (by kernel_rfl) (fun τ hτ => ?_)
         obtain rfl := Option.some.inj h
         exact lk_nextS hτ (here (by kernel_rfl))
      ·replace h := iteF hb h
       refine sem_exitS 0 (by kernel_rfl) rfl (fun τ hτ => ?_)
       refine th_exit ?_
       obtain rfl := Option.some.inj h
       exact lk_outS hτ rfl (here (by kernel_rfl))
     ·intro x
      rfl
     ·intro τ hτ
      refine bl_hit (by kernel_rfl) ?_
      refine th_normalS hτ ⟨[(0, (vS s0))], []⟩ (here (by kernel_rfl)) ?_
      refine z7 (by kernel_rfl) ?_
      refine evs_run 1 (by kernel_rfl) ?_
      obtain ⟨s42, hs42, h⟩ := bindS h
      refine evs_op (st_cat (a := (ByteArray.mk #[32])) (b := s0) (by kernel_rfl) hs42) ?_
      obtain ⟨s43, hs43, h⟩ := bindS h
      refine evs_op (st_cat (a := s42) (b := (ByteArray.mk #[32])) (by kernel_rfl) hs43) ?_
      obtain ⟨r44, hr44, h⟩ := bindS h
      refine evs_callP [] (by kernel_rfl) (W.strings_Contains_ok hr44) (by kernel_rfl) (.inl rfl) (by kernel_rfl) ?_
      refine z1 2 ⟨[(2, (vB (!r44)))], []⟩ (by kernel_rfl) ?_
      refine sem_retS (by kernel_rfl) (fun τ hτ => ?_)
      obtain rfl := Option.some.inj h
      exact rk_ret hτ [(2, (vB (!r44)))] (here (by kernel_rfl)) (by kernel_rfl)
theorem W.nest_from_k_ok {n : Int} {lo : Int} {hi : Int} {r : Bool} (h : nest_from_k n lo hi = some r) : PC G.P 63 [(vI n), (vI lo), (vI hi)] [] (vB r) [] := by
 refine pc_of G (fn := Try.f63) Try.func63 (by kernel_rfl) (by kernel_rfl) (by kernel_rfl) (by kernel_rfl) (by kernel_rfl) ?_
 refine sem_set ⟨[(0, (vI n)), (1, (vI lo)), (2, (vI hi))], []⟩ (by kernel_rfl) ?_
 refine z3 1 ⟨[(0, (vI n)), (1, (vI lo)), (2, (vI hi))], []⟩ (by kernel_rfl) ?_
 refine z7 (by kernel_rfl) ?_
 refine evs_run 4 (by kernel_rfl) ?_
 refine evs_split (decide (lo ≤ n)) (fun b0 => ⟨[(0, (vI n)), (2, (vI hi)), (10, (vB b0))], []⟩) (by kernel_rfl) (fun hb => ?_) (fun hb => ?_)
 ·replace h := iteT hb h
  refine z1 5 ⟨[(6, (vB (decide (n ≤ hi))))], []⟩ (by kernel_rfl) ?_
  refine sem_retS (by kernel_rfl) (fun τ hτ => ?_)
  obtain rfl := Option.some.inj h
  exact rk_ret hτ [(6, (vB (decide (n ≤ hi))))] (here (by kernel_rfl)) (by kernel_rfl)
 ·replace h := iteF hb h
  exact nomatch h
theorem W.nest_plain_k_ok {gauge : Int} {grain : Int} {r : Bool} (h : nest_plain_k gauge grain = some r) : PC G.P 62 [(vI gauge), (vI grain)] [] (vB r) [] := by
 refine pc_of G (fn := Try.f62) Try.func62 (by kernel_rfl) (by kernel_rfl) (by kernel_rfl) (by kernel_rfl) (by kernel_rfl) ?_
 refine sem_set ⟨[(0, (vI gauge)), (1, (vI grain))], []⟩ (by kernel_rfl) ?_
 refine z3 1 ⟨[(0, (vI gauge)), (1, (vI grain))], []⟩ (by kernel_rfl) ?_
 refine z7 (by kernel_rfl) ?_
 refine evs_run 1 (by kernel_rfl) ?_
 obtain ⟨r3, hr3, h⟩ := bindS h
 refine evs_callP [] (by kernel_rfl) (W.nest_from_k_ok hr3) (by kernel_rfl) (.inl rfl) (by kernel_rfl) ?_
 refine evs_run 1 (by kernel_rfl) ?_
 refine evs_split r3 (fun b0 => ⟨[(1, (vI grain)), (7, (vB b0))], []⟩) (by kernel_rfl) (fun hb => ?_) (fun hb => ?_)
 ·replace h := iteT hb h
  refine evs_run 1 (by kernel_rfl) ?_
  obtain ⟨r4, hr4, h⟩ := bindS h
  refine evs_callP [] (by kernel_rfl) (W.nest_from_k_ok hr4) (by kernel_rfl) (.inl rfl) (by kernel_rfl) ?_
  refine z1 2 ⟨[(4, (vB r4))], []⟩ (by kernel_rfl) ?_
  refine sem_retS (by kernel_rfl) (fun τ hτ => ?_)
  obtain rfl := Option.some.inj h
  exact rk_ret hτ [(4, (vB r4))] (here (by kernel_rfl)) (by kernel_rfl)
 ·replace h := iteF hb h
  exact nomatch h
theorem W.geom_within_k_ok {n : Int} {most : Int} {r : Bool} (h : geom_within_k n most = some r) : PC G.P 36 [(vI n), (vI most)] [] (vB r) [] := by
 refine pc_of G (fn := Try.f36) Try.func36 (by kernel_rfl) (by kernel_rfl) (by kernel_rfl) (by kernel_rfl) (by kernel_rfl) ?_
 refine sem_set ⟨[(0, (vI n)), (1, (vI most))], []⟩ (by kernel_rfl) ?_
 refine z3 1 ⟨[(0, (vI n)), (1, (vI most))], []⟩ (by kernel_rfl) ?_
 refine z7 (by kernel_rfl) ?_
 refine evs_run 5 (by kernel_rfl) ?_
 refine evs_split (decide ((ineg most) ≤ n)) (fun b0 => ⟨[(0, (vI n)), (1, (vI most)), (9, (vB b0))], []⟩) (by kernel_rfl) (fun hb => ?_) (fun hb => ?_)
 ·replace h := iteT hb h
  refine z1 5 ⟨[(4, (vB (decide (n ≤ most))))], []⟩ (by kernel_rfl) ?_
  refine sem_retS (by kernel_rfl) (fun τ hτ => ?_)
  obtain rfl := Option.some.inj h
  exact rk_ret hτ [(4, (vB (decide (n ≤ most))))] (here (by kernel_rfl)) (by kernel_rfl)
 ·replace h := iteF hb h
  exact nomatch h
theorem W.geom_ValidRect_1_k_ok {x0 : Int} {w : Int} {r : Bool} (h : geom_ValidRect_1_k x0 w = some r) : PC G.P 35 [(vI x0), (vI w)] [] (vB r) [] := by
 refine pc_of G (fn := Try.f35) Try.func35 (by kernel_rfl) (by kernel_rfl) (by kernel_rfl) (by kernel_rfl) (by kernel_rfl) ?_
 refine sem_set ⟨[(0, (vI x0)), (1, (vI w))], []⟩ (by kernel_rfl) ?_
 refine z3 1 ⟨[(0, (vI x0)), (1, (vI w))], []⟩ (by kernel_rfl) ?_
 refine z7 (by kernel_rfl) ?_
 refine evs_run 1 (by kernel_rfl) ?_
 obtain ⟨r2, hr2, h⟩ := bindS h
 refine evs_callP [] (by kernel_rfl) (W.geom_within_k_ok hr2) (by kernel_rfl) (.inl rfl) (by kernel_rfl) ?_
 refine evs_run 1 (by kernel_rfl) ?_
 refine evs_split r2 (fun b0 => ⟨[(0, (vI x0)), (1, (vI w)), (7, (vB b0))], []⟩) (by kernel_rfl) (fun hb => ?_) (fun hb => ?_)
 ·replace h := iteT hb h
  refine evs_run 4 (by kernel_rfl) ?_
  refine evs_split (decide (w > 0)) (fun b0 => ⟨[(0, (vI x0)), (1, (vI w)), (11, (vB b0))], []⟩) (by kernel_rfl) (fun hb => ?_) (fun hb => ?_)
  ·replace h := iteT hb h
   refine evs_run 4 (by kernel_rfl) ?_
   refine evs_split (decide (w ≤ 2097152)) (fun b0 => ⟨[(0, (vI x0)), (1, (vI w)), (15, (vB b0))], []⟩) (by kernel_rfl) (fun hb => ?_) (fun hb => ?_)
   ·replace h := iteT hb h
    refine z1 6 ⟨[(4, (vB (decide ((iadd x0 w) ≤ 1048576))))], []⟩ (by kernel_rfl) ?_
    refine sem_retS (by kernel_rfl) (fun τ hτ => ?_)
    obtain rfl := Option.some.inj h
    exact rk_ret hτ [(4, (vB (decide ((iadd x0 w) ≤ 1048576))))] (here (by kernel_rfl)) (by kernel_rfl)
   ·replace h := iteF hb h
    exact nomatch h
  ·replace h := iteF hb h
   exact nomatch h
 ·replace h := iteF hb h
  exact nomatch h
theorem W.geom_ValidRect_k_ok {r0 : Rect} {r : Bool} (h : geom_ValidRect_k r0 = some r) : PC G.P 20 [(.agg [(vI r0.X), (vI r0.Y), (vI r0.W), (vI r0.H)])] [] (vB r) [] := by
 refine pc_of G (fn := Try.f20) Try.func20 (by kernel_rfl) (by kernel_rfl) (by kernel_rfl) (by kernel_rfl) (by kernel_rfl) ?_
 refine sem_set ⟨[(0, (.agg [(vI r0.X), (vI r0.Y), (vI r0.W), (vI r0.H)]))], []⟩ (by kernel_rfl) ?_
 refine z3 2 ⟨[(1, (.ptr 1 0))], [(1, .box [(vI r0.X), (vI r0.Y), (vI r0.W), (vI r0.H)])]⟩ (by kernel_rfl) ?_
 refine z3 1 ⟨[(1, (.ptr 1 0)), (3, (.fn 35 []))], [(1, .box [(vI r0.X), (vI r0.Y), (vI r0.W), (vI r0.H)])]⟩ (by kernel_rfl) ?_
 refine z7 (by kernel_rfl) ?_
 refine evs_run 5 (by kernel_rfl) ?_
 obtain ⟨r3, hr3, h⟩ := bindS h
 refine evs_callP [] (by kernel_rfl) (W.geom_ValidRect_1_k_ok hr3) (by kernel_rfl) (.inl rfl) (by kernel_rfl) ?_
 refine evs_run 1 (by kernel_rfl) ?_
 refine evs_split r3 (fun b0 => ⟨[(1, (.ptr 1 0)), (3, (.fn 35 [])), (10, (vB b0))], [(1, .box [(vI r0.X), (vI r0.Y), (vI r0.W), (vI r0.H)])]⟩) (by kernel_rfl) (fun hb => ?_) (fun hb => ?_)
 ·replace h := iteT hb h
  refine evs_run 5 (by kernel_rfl) ?_
  obtain ⟨r4, hr4, h⟩ := bindS h
  refine evs_callP [] (by kernel_rfl) (W.geom_ValidRect_1_k_ok hr4) (by kernel_rfl) (.inl rfl) (by kernel_rfl) ?_
  refine z1 2 ⟨[(2, (vB r4))], []⟩ (by kernel_rfl) ?_
  refine sem_retS (by kernel_rfl) (fun τ hτ => ?_)
  obtain rfl := Option.some.inj h
  exact rk_ret hτ [(2, (vB r4))] (here (by kernel_rfl)) (by kernel_rfl)
 ·replace h := iteF hb h
  exact nomatch h
theorem W.nest_valid_k_ok {l : (List Rect)} {r : Bool} (h : nest_valid_k l = some r) : PC G.P 64 [(.sl (List.map c_Rect l))] [] (vB r) [] := by
 refine pc_of G (fn := Try.f64) Try.func64 (by kernel_rfl) (by kernel_rfl) (by kernel_rfl) (by kernel_rfl) (by kernel_rfl) ?_
 refine sem_set ⟨[(0, (.sl (List.map c_Rect l)))], []⟩ (by kernel_rfl) ?_
 refine z3 1 ⟨[(0, (.sl (List.map c_Rect l)))], []⟩ (by kernel_rfl) ?_
 refine sem_seq (by kernel_rfl) ?_
 refine z7 (by kernel_rfl) ?_
 refine evs_run 1 (by kernel_rfl) ?_
 refine evs_op (st_len (c := c_Rect) (l := l) (x := (.sl (List.map c_Rect l))) (by kernel_rfl) (by kernel_rfl)) ?_
 refine z1 1 ⟨[(5, (.sl (List.map c_Rect l))), (6, (vI (l.length : Int))), (7, (vI 0))], []⟩ (by kernel_rfl) ?_
 refine sem_block (by kernel_rfl) ?_
 obtain ⟨x54, hx54, h⟩ := bindS h
 refine sem_loopS (fun (s37 : Int) => ⟨[(5, (.sl (List.map c_Rect l))), (6, (vI (l.length : Int))), (7, (vI s37))], []⟩) (fun (x54 : Unit) => (.exit 0, ⟨[], []⟩)) (nest_valid_k_l1 l) 0 x54 (by kernel_rfl) (here (by kernel_rfl)) (iter_loop hx54) ?_ ?_ ?_
 ·intro s37 r h
  refine z3 1 ⟨[(5, (.sl (List.map c_Rect l))), (6, (vI (l.length : Int))), (7, (vI s37)), (8, (vB (decide (s37 < (l.length : Int)))))], []⟩ (by kernel_rfl) ?_
  refine sem_seq (by kernel_rfl) ?_
  refine sem_cond (decide (s37 < (l.length : Int))) (by kernel_rfl) (by kernel_rfl) (fun hb => ?_) (fun hb => ?_)
  ·replace h := iteT hb h
   refine z4 ⟨[(5, (.sl (List.map c_Rect l))), (6, (vI (l.length : Int))), (7, (vI s37))], []⟩ (by kernel_rfl) ?_
   refine sem_seq (by kernel_rfl) ?_
   refine sem_block (by kernel_rfl) ?_
   refine z7 (by kernel_rfl) ?_
   obtain ⟨x51, hx51, h⟩ := bindS h
   refine evs_op (st_idx (c := c_Rect) (l := l) (i := s37) (kd := .i64) (sz := 4) (by kernel_rfl) hx51 rfl) ?_
   refine z1 3 ⟨[(4, (.ptr 4 0)), (5, (.sl (List.map c_Rect l))), (6, (vI (l.length : Int))), (7, (vI s37))], [(4, .box [(vI x51.X), (vI x51.Y), (vI x51.W), (vI x51.H)])]⟩ (by kernel_rfl) ?_
   refine z7 (by kernel_rfl) ?_
   refine evs_run 1 (by kernel_rfl) ?_
   obtain ⟨r53, hr53, h⟩ := bindS h
   refine evs_callP [] (by kernel_rfl) (W.geom_ValidRect_k_ok hr53) (by kernel_rfl) (.inl rfl) (by kernel_rfl) ?_
   refine z1 1 ⟨[(5, (.sl (List.map c_Rect l))), (6, (vI (l.length : Int))), (7, (vI s37)), (13, (vB (!r53)))], []⟩ (by kernel_rfl) ?_
   refine sem_cond (!r53) (by kernel_rfl) (by kernel_rfl) (fun hb => ?_) (fun hb => ?_)
   ·replace h := iteT hb h
    exact nomatch h
   ·replace h := iteF hb h
    refine sem_skipS (by kernel_rfl) (fun τ hτ => ?_)
    refine bl_normal ?_
    refine th_normalS hτ ⟨[(5, (.sl (List.map c_Rect l))), (6, (vI (l.length : Int))), (7, (vI s37))], []⟩ (here (by kernel_rfl)) ?_
    refine sem_region (by kernel_rfl) ?_
    refine z6 2 (by kernel_rfl) (fun τ hτ => ?_)
    obtain rfl := Option.some.inj h
    exact lk_nextS hτ (here (by kernel_rfl))
  ·replace h := iteF hb h
   refine sem_exitS 0 (by kernel_rfl) rfl (fun τ hτ => ?_)
   refine th_exit ?_
   obtain rfl := Option.some.inj h
   exact lk_outS hτ rfl (here (by kernel_rfl))
 ·intro x
  rfl
 ·intro τ hτ
  refine bl_hit (by kernel_rfl) ?_
  refine th_normalS hτ ⟨[], []⟩ (here (by kernel_rfl)) ?_
  refine z8 1 ⟨[(2, (vB true))], []⟩ (by kernel_rfl) (fun τ hτ => ?_)
  obtain rfl := Option.some.inj h
  exact rk_ret hτ [(2, (vB true))] (here (by kernel_rfl)) (by kernel_rfl)
theorem W.nest_inner_k_ok {s0 : Sheet} {margin : Int} {r : Rect × Bool} (h : nest_inner_k s0 margin = some r) : PC G.P 65 [(.agg [(vS s0.Name), (vS s0.Material), (vI s0.Gauge), (vI s0.Grain), (vI s0.Width), (vI s0.Height), (.sl (List.map c_Rect s0.Clamps)), (.sl (List.map c_Rect s0.Used))]), (vI margin)] [] (.tup [(.agg [(vI r.1.X), (vI r.1.Y), (vI r.1.W), (vI r.1.H)]), (vB r.2)]) [(0, .box [(vI margin), (vI margin), (vI (isub s0.Width (imul 2 margin))), (vI (isub s0.Height (imul 2 margin)))])] := by
 refine pc_of G (fn := Try.f65) Try.func65 (by kernel_rfl) (by kernel_rfl) (by kernel_rfl) (by kernel_rfl) (by kernel_rfl) ?_
 refine sem_set ⟨[(0, (.agg [(vS s0.Name), (vS s0.Material), (vI s0.Gauge), (vI s0.Grain), (vI s0.Width), (vI s0.Height), (.sl (List.map c_Rect s0.Clamps)), (.sl (List.map c_Rect s0.Used))])), (1, (vI margin))], []⟩ (by kernel_rfl) ?_
 refine z3 3 ⟨[(1, (vI margin)), (2, (.ptr 2 0)), (4, (.ptr 4 0))], [(2, .box [(vS s0.Name), (vS s0.Material), (vI s0.Gauge), (vI s0.Grain), (vI s0.Width), (vI s0.Height), (.sl (List.map c_Rect s0.Clamps)), (.sl (List.map c_Rect s0.Used))]), (4, .box [(vI 0), (vI 0), (vI 0), (vI 0)])]⟩ (by kernel_rfl) ?_
 refine z3 15 ⟨[(4, (.ptr 4 0)), (6, (.ptr 6 0))], [(4, .box [(vI 0), (vI 0), (vI 0), (vI 0)]), (6, .box [(vI margin), (vI margin), (vI (isub s0.Width (imul 2 margin))), (vI (isub s0.Height (imul 2 margin)))])]⟩ (by kernel_rfl) ?_
 refine sem_seq (by kernel_rfl) ?_
 refine sem_drawN [] [] [] [] [] 3 (by kernel_rfl) (by kernel_rfl) (by kernel_rfl) ?_
 refine evd_run 2 (by kernel_rfl) ?_
 obtain ⟨r3, hr3, h⟩ := bindS h
 refine evd_callS [] [] (by kernel_rfl) (by kernel_rfl) (W.geom_ValidRect_k_ok hr3) (by kernel_rfl) (.inl rfl) (by kernel_rfl) (by kernel_rfl) ?_
 refine evd_end (by kernel_rfl) ?_
 refine evo_run 2 (by kernel_rfl) ?_
 refine evo_endS (by kernel_rfl) (fun τ hτ => ?_)
 refine th_normalS hτ ⟨[(4, (.ptr 4 0)), (5, (vB r3))], [(4, .box [(vI margin), (vI margin), (vI (isub s0.Width (imul 2 margin))), (vI (isub s0.Height (imul 2 margin)))])]⟩ (here (by kernel_rfl)) ?_
 refine sem_retS (by kernel_rfl) (fun τ hτ => ?_)
 obtain rfl := Option.some.inj h
 exact rk_ret hτ [(4, (.ptr 0 0)), (5, (vB r3))] (subR_prep [] [(4, 0)] (by kernel_rfl) rfl rfl (by kernel_rfl)) (by kernel_rfl)
theorem W.nest_ValidateSheet_k_ok {s0 : Sheet} {r : Int} (h : nest_ValidateSheet_k s0 = some r) : PC G.P 48 [(.agg [(vS s0.Name), (vS s0.Material), (vI s0.Gauge), (vI s0.Grain), (vI s0.Width), (vI s0.Height), (.sl (List.map c_Rect s0.Clamps)), (.sl (List.map c_Rect s0.Used))])] [] (vI r) [] := by
 refine pc_of G (fn := Try.f48) Try.func48 (by kernel_rfl) (by kernel_rfl) (by kernel_rfl) (by kernel_rfl) (by kernel_rfl) ?_
 refine sem_set ⟨[(0, (.agg [(vS s0.Name), (vS s0.Material), (vI s0.Gauge), (vI s0.Grain), (vI s0.Width), (vI s0.Height), (.sl (List.map c_Rect s0.Clamps)), (.sl (List.map c_Rect s0.Used))]))], []⟩ (by kernel_rfl) ?_
 refine z3 2 ⟨[(1, (.ptr 1 0))], [(1, .box [(vS s0.Name), (vS s0.Material), (vI s0.Gauge), (vI s0.Grain), (vI s0.Width), (vI s0.Height), (.sl (List.map c_Rect s0.Clamps)), (.sl (List.map c_Rect s0.Used))])]⟩ (by kernel_rfl) ?_
 refine sem_seq (by kernel_rfl) ?_
 refine sem_block (by kernel_rfl) ?_
 refine z7 (by kernel_rfl) ?_
 refine evs_run 2 (by kernel_rfl) ?_
 obtain ⟨r17, hr17, h⟩ := bindS h
 refine evs_callP [] (by kernel_rfl) (W.part_ValidName_k_ok hr17) (by kernel_rfl) (.inl rfl) (by kernel_rfl) ?_
 refine evs_run 2 (by kernel_rfl) ?_
 refine evs_split r17 (fun b0 => ⟨[(1, (.ptr 1 0)), (14, (vB (!b0)))], [(1, .box [(vS s0.Name), (vS s0.Material), (vI s0.Gauge), (vI s0.Grain), (vI s0.Width), (vI s0.Height), (.sl (List.map c_Rect s0.Clamps)), (.sl (List.map c_Rect s0.Used))])]⟩) (by kernel_rfl) (fun hb => ?_) (fun hb => ?_)
 ·replace h := iteT hb h
  refine evs_run 2 (by kernel_rfl) ?_
  obtain ⟨r18, hr18, h⟩ := bindS h
  refine evs_callP [] (by kernel_rfl) (W.part_ValidName_k_ok hr18) (by kernel_rfl) (.inl rfl) (by kernel_rfl) ?_
  refine z1 3 ⟨[(1, (.ptr 1 0)), (9, (vB (!r18)))], [(1, .box [(vS s0.Name), (vS s0.Material), (vI s0.Gauge), (vI s0.Grain), (vI s0.Width), (vI s0.Height), (.sl (List.map c_Rect s0.Clamps)), (.sl (List.map c_Rect s0.Used))])]⟩ (by kernel_rfl) ?_
  refine sem_cond (!r18) (by kernel_rfl) (by kernel_rfl) (fun hb => ?_) (fun hb => ?_)
  ·replace h := iteT hb h
   exact nomatch h
  ·replace h := iteF hb h
   refine z7 (by kernel_rfl) ?_
   refine evs_run 4 (by kernel_rfl) ?_
   obtain ⟨r22, hr22, h⟩ := bindS h
   refine evs_callP [] (by kernel_rfl) (W.nest_plain_k_ok hr22) (by kernel_rfl) (.inl rfl) (by kernel_rfl) ?_
   refine evs_run 2 (by kernel_rfl) ?_
   refine evs_split r22 (fun b0 => ⟨[(1, (.ptr 1 0)), (27, (vB (!b0)))], [(1, .box [(vS s0.Name), (vS s0.Material), (vI s0.Gauge), (vI s0.Grain), (vI s0.Width), (vI s0.Height), (.sl (List.map c_Rect s0.Clamps)), (.sl (List.map c_Rect s0.Used))])]⟩) (by kernel_rfl) (fun hb => ?_) (fun hb => ?_)
   ·replace h := iteT hb h
    refine evs_run 2 (by kernel_rfl) ?_
    obtain ⟨r23, hr23, h⟩ := bindS h
    refine evs_callP [] (by kernel_rfl) (W.nest_from_k_ok hr23) (by kernel_rfl) (.inl rfl) (by kernel_rfl) ?_
    refine evs_run 3 (by kernel_rfl) ?_
    refine evs_split r23 (fun b0 => ⟨[(1, (.ptr 1 0)), (33, (vB (!b0)))], [(1, .box [(vS s0.Name), (vS s0.Material), (vI s0.Gauge), (vI s0.Grain), (vI s0.Width), (vI s0.Height), (.sl (List.map c_Rect s0.Clamps)), (.sl (List.map c_Rect s0.Used))])]⟩) (by kernel_rfl) (fun hb => ?_) (fun hb => ?_)
    ·replace h := iteT hb h
     refine evs_run 2 (by kernel_rfl) ?_
     obtain ⟨r24, hr24, h⟩ := bindS h
     refine evs_callP [] (by kernel_rfl) (W.nest_from_k_ok hr24) (by kernel_rfl) (.inl rfl) (by kernel_rfl) ?_
     refine z1 3 ⟨[(1, (.ptr 1 0)), (20, (vB (!r24)))], [(1, .box [(vS s0.Name), (vS s0.Material), (vI s0.Gauge), (vI s0.Grain), (vI s0.Width), (vI s0.Height), (.sl (List.map c_Rect s0.Clamps)), (.sl (List.map c_Rect s0.Used))])]⟩ (by kernel_rfl) ?_
     refine sem_cond (!r24) (by kernel_rfl) (by kernel_rfl) (fun hb => ?_) (fun hb => ?_)
     ·replace h := iteT hb h
      exact nomatch h
     ·replace h := iteF hb h
      refine z7 (by kernel_rfl) ?_
      refine evs_run 2 (by kernel_rfl) ?_
      refine evs_op (st_len (c := c_Rect) (l := s0.Clamps) (x := (.sl (List.map c_Rect s0.Clamps))) (by kernel_rfl) (by kernel_rfl)) ?_
      refine evs_run 2 (by kernel_rfl) ?_
      refine evs_split (decide ((s0.Clamps.length : Int) > 4)) (fun b0 => ⟨[(1, (.ptr 1 0)), (44, (vB b0))], [(1, .box [(vS s0.Name), (vS s0.Material), (vI s0.Gauge), (vI s0.Grain), (vI s0.Width), (vI s0.Height), (.sl (List.map c_Rect s0.Clamps)), (.sl (List.map c_Rect s0.Used))])]⟩) (by kernel_rfl) (fun hb => ?_) (fun hb => ?_)
      ·replace h := iteT hb h
       exact nomatch h
      ·replace h := iteF hb h
       refine evs_run 2 (by kernel_rfl) ?_
       refine evs_op (st_len (c := c_Rect) (l := s0.Used) (x := (.sl (List.map c_Rect s0.Used))) (by kernel_rfl) (by kernel_rfl)) ?_
       refine z1 3 ⟨[(1, (.ptr 1 0)), (39, (vB (decide ((s0.Used.length : Int) > 48))))], [(1, .box [(vS s0.Name), (vS s0.Material), (vI s0.Gauge), (vI s0.Grain), (vI s0.Width), (vI s0.Height), (.sl (List.map c_Rect s0.Clamps)), (.sl (List.map c_Rect s0.Used))])]⟩ (by kernel_rfl) ?_
       refine sem_cond (decide ((s0.Used.length : Int) > 48)) (by kernel_rfl) (by kernel_rfl) (fun hb => ?_) (fun hb => ?_)
       ·replace h := iteT hb h
        exact nomatch h
       ·replace h := iteF hb h
        refine z7 (by kernel_rfl) ?_
        refine evs_run 2 (by kernel_rfl) ?_
        obtain ⟨r27, hr27, h⟩ := bindS h
        refine evs_callP [] (by kernel_rfl) (W.nest_valid_k_ok hr27) (by kernel_rfl) (.inl rfl) (by kernel_rfl) ?_
        refine evs_run 2 (by kernel_rfl) ?_
        refine evs_split r27 (fun b0 => ⟨[(1, (.ptr 1 0)), (55, (vB (!b0)))], [(1, .box [(vS s0.Name), (vS s0.Material), (vI s0.Gauge), (vI s0.Grain), (vI s0.Width), (vI s0.Height), (.sl (List.map c_Rect s0.Clamps)), (.sl (List.map c_Rect s0.Used))])]⟩) (by kernel_rfl) (fun hb => ?_) (fun hb => ?_)
        ·replace h := iteT hb h
         refine evs_run 2 (by kernel_rfl) ?_
         obtain ⟨r28, hr28, h⟩ := bindS h
         refine evs_callP [] (by kernel_rfl) (W.nest_valid_k_ok hr28) (by kernel_rfl) (.inl rfl) (by kernel_rfl) ?_
         refine z1 3 ⟨[(1, (.ptr 1 0)), (50, (vB (!r28)))], [(1, .box [(vS s0.Name), (vS s0.Material), (vI s0.Gauge), (vI s0.Grain), (vI s0.Width), (vI s0.Height), (.sl (List.map c_Rect s0.Clamps)), (.sl (List.map c_Rect s0.Used))])]⟩ (by kernel_rfl) ?_
         refine sem_cond (!r28) (by kernel_rfl) (by kernel_rfl) (fun hb => ?_) (fun hb => ?_)
         ·replace h := iteT hb h
          exact nomatch h
         ·replace h := iteF hb h
          refine sem_skipS (by kernel_rfl) (fun τ hτ => ?_)
          refine bl_normal ?_
          refine th_normalS hτ ⟨[(1, (.ptr 1 0))], [(1, .box [(vS s0.Name), (vS s0.Material), (vI s0.Gauge), (vI s0.Grain), (vI s0.Width), (vI s0.Height), (.sl (List.map c_Rect s0.Clamps)), (.sl (List.map c_Rect s0.Used))])]⟩ (here (by kernel_rfl)) ?_
          refine z7 (by kernel_rfl) ?_
          refine evs_run 1 (by kernel_rfl) ?_
          obtain ⟨r30, hr30, h⟩ := bindS h
          refine evs_callS [] [(0, 700050)] [] (by kernel_rfl) (W.nest_inner_k_ok hr30) (by kernel_rfl) (by kernel_rfl) (.inl rfl) ?_
          refine z1 6 ⟨[(1, (.ptr 1 0)), (3, (.ptr 3 0))], [(1, .box [(vS s0.Name), (vS s0.Material), (vI s0.Gauge), (vI s0.Grain), (vI s0.Width), (vI s0.Height), (.sl (List.map c_Rect s0.Clamps)), (.sl (List.map c_Rect s0.Used))]), (3, .box [(vI r30.1.X), (vI r30.1.Y), (vI r30.1.W), (vI r30.1.H)])]⟩ (by kernel_rfl) ?_
          refine sem_seq (by kernel_rfl) ?_
          refine z7 (by kernel_rfl) ?_
          refine evs_run 5 (by kernel_rfl) ?_
          refine evs_op (st_len (c := (cS c_Rect)) (l := [s0.Clamps, s0.Used]) (x := (.sl (List.map (cS c_Rect) [s0.Clamps, s0.Used]))) (by kernel_rfl) (by kernel_rfl)) ?_
          refine z1 1 ⟨[(3, (.ptr 3 0)), (70, (.sl (List.map (cS c_Rect) [s0.Clamps, s0.Used]))), (71, (vI ([s0.Clamps, s0.Used].length : Int))), (72, (vI 0))], [(3, .box [(vI r30.1.X), (vI r30.1.Y), (vI r30.1.W), (vI r30.1.H)])]⟩ (by kernel_rfl) ?_
          refine sem_block (by kernel_rfl) ?_
          obtain ⟨x84, hx84, h⟩ := bindS h
          refine sem_loopS (fun (s67 : Int) => ⟨[(3, (.ptr 500000 0)), (70, (.sl (List.map (cS c_Rect) [s0.Clamps, s0.Used]))), (71, (vI ([s0.Clamps, s0.Used].length : Int))), (72, (vI s67))], [(500000, .box [(vI r30.1.X), (vI r30.1.Y), (vI r30.1.W), (vI r30.1.H)])]⟩) (fun (x84 : Unit) => (.exit 1, ⟨[], []⟩)) (nest_ValidateSheet_k_l2 s0) 0 x84 (by kernel_rfl) (subR_prep [] [(3, 500000)] (by kernel_rfl) rfl rfl (by kernel_rfl)) (iter_loop hx84) ?_ ?_ ?_
          ·intro s67 r h
           refine z3 1 ⟨[(3, (.ptr 500000 0)), (70, (.sl (List.map (cS c_Rect) [s0.Clamps, s0.Used]))), (71, (vI ([s0.Clamps, s0.Used].length : Int))), (72, (vI s67)), (73, (vB (decide (s67 < ([s0.Clamps, s0.Used].length : Int)))))], [(500000, .box [(vI r30.1.X), (vI r30.1.Y), (vI r30.1.W), (vI r30.1.H)])]⟩ (by kernel_rfl) ?_
           refine sem_seq (by kernel_rfl) ?_
           refine sem_cond (decide (s67 < ([s0.Clamps, s0.Used].length : Int))) (by kernel_rfl) (by kernel_rfl) (fun hb => ?_) (fun hb => ?_)
           ·replace h := iteT hb h
            refine z4 ⟨[(3, (.ptr 500000 0)), (70, (.sl (List.map (cS c_Rect) [s0.Clamps, s0.Used]))), (71, (vI ([s0.Clamps, s0.Used].length : Int))), (72, (vI s67))], [(500000, .box [(vI r30.1.X), (vI r30.1.Y), (vI r30.1.W), (vI r30.1.H)])]⟩ (by kernel_rfl) ?_
            refine sem_seq (by kernel_rfl) ?_
            refine sem_block (by kernel_rfl) ?_
            refine z7 (by kernel_rfl) ?_
            obtain ⟨x81, hx81, h⟩ := bindS h
            refine evs_op (st_idx (c := (cS c_Rect)) (l := [s0.Clamps, s0.Used]) (i := s67) (kd := .i64) (sz := 1) (by kernel_rfl) hx81 rfl) ?_
            refine z1 2 ⟨[(3, (.ptr 500000 0)), (6, (.sl (List.map c_Rect x81))), (70, (.sl (List.map (cS c_Rect) [s0.Clamps, s0.Used]))), (71, (vI ([s0.Clamps, s0.Used].length : Int))), (72, (vI s67))], [(500000, .box [(vI r30.1.X), (vI r30.1.Y), (vI r30.1.W), (vI r30.1.H)])]⟩ (by kernel_rfl) ?_
            refine z7 (by kernel_rfl) ?_
            refine evs_run 1 (by kernel_rfl) ?_
            refine evs_op (st_len (c := c_Rect) (l := x81) (x := (.sl (List.map c_Rect x81))) (by kernel_rfl) (by kernel_rfl)) ?_
            refine z1 1 ⟨[(3, (.ptr 500000 0)), (70, (.sl (List.map (cS c_Rect) [s0.Clamps, s0.Used]))), (71, (vI ([s0.Clamps, s0.Used].length : Int))), (72, (vI s67)), (76, (.sl (List.map c_Rect x81))), (77, (vI (x81.length : Int))), (78, (vI 0))], [(500000, .box [(vI r30.1.X), (vI r30.1.Y), (vI r30.1.W), (vI r30.1.H)])]⟩ (by kernel_rfl) ?_
            refine sem_block (by kernel_rfl) ?_
            obtain ⟨x83, hx83, h⟩ := bindS h
            refine sem_loopS (fun (s82 : Unit) => ⟨[(3, (.ptr 500000 0)), (70, (.sl (List.map (cS c_Rect) [s0.Clamps, s0.Used]))), (71, (vI ([s0.Clamps, s0.Used].length : Int))), (72, (vI s67)), (76, (.sl (List.map c_Rect x81))), (77, (vI (x81.length : Int))), (78, (vI 0))], [(500000, .box [(vI r30.1.X), (vI r30.1.Y), (vI r30.1.W), (vI r30.1.H)])]⟩) (fun (x83 : Unit) => (.exit 3, ⟨[(3, (.ptr 500000 0)), (70, (.sl (List.map (cS c_Rect) [s0.Clamps, s0.Used]))), (71, (vI ([s0.Clamps, s0.Used].length : Int))), (72, (vI s67))], [(500000, .box [(vI r30.1.X), (vI r30.1.Y), (vI r30.1.W), (vI r30.1.H)])]⟩)) (nest_ValidateSheet_k_l1 x81) () x83 (by kernel_rfl) (here (by kernel_rfl)) (iter_loop hx83) ?_ ?_ ?_
            ·intro s82 r h
             refine z3 1 ⟨[(3, (.ptr 500000 0)), (70, (.sl (List.map (cS c_Rect) [s0.Clamps, s0.Used]))), (71, (vI ([s0.Clamps, s0.Used].length : Int))), (72, (vI s67)), (76, (.sl (List.map c_Rect x81))), (77, (vI (x81.length : Int))), (78, (vI 0)), (79, (vB (decide (0 < (x81.length : Int)))))], [(500000, .box [(vI r30.1.X), (vI r30.1.Y), (vI r30.1.W), (vI r30.1.H)])]⟩ (by kernel_rfl) ?_
             refine sem_seq (by kernel_rfl) ?_
             refine sem_cond (decide (0 < (x81.length : Int))) (by kernel_rfl) (by kernel_rfl) (fun hb => ?_) (fun hb => ?_)
             ·replace h := iteT hb h
              exact nomatch h
             ·replace h := iteF hb h
              refine sem_exitS 3 (by kernel_rfl) rfl (fun τ hτ => ?_)
              refine th_exit ?_
              obtain rfl := Option.some.inj h
              exact lk_outS hτ rfl (here (by kernel_rfl))
            ·intro x
             rfl
            ·intro τ hτ
             refine bl_hit (by kernel_rfl) ?_
             refine bl_normal ?_
             refine th_normalS hτ ⟨[(3, (.ptr 500000 0)), (70, (.sl (List.map (cS c_Rect) [s0.Clamps, s0.Used]))), (71, (vI ([s0.Clamps, s0.Used].length : Int))), (72, (vI s67))], [(500000, .box [(vI r30.1.X), (vI r30.1.Y), (vI r30.1.W), (vI r30.1.H)])]⟩ (here (by kernel_rfl)) ?_
             refine sem_region (by kernel_rfl) ?_
             refine z6 2 (by kernel_rfl) (fun τ hτ => ?_)
             obtain rfl := Option.some.inj h
             exact lk_nextS hτ (here (by kernel_rfl))
           ·replace h := iteF hb h
            refine sem_exitS 1 (by kernel_rfl) rfl (fun τ hτ => ?_)
            refine th_exit ?_
            obtain rfl := Option.some.inj h
            exact lk_outS hτ rfl (here (by kernel_rfl))
          ·intro x
           rfl
          ·intro τ hτ
           refine bl_hit (by kernel_rfl) ?_
           refine th_normalS hτ ⟨[], []⟩ (here (by kernel_rfl)) ?_
           refine z8 1 ⟨[(2, (vI 0))], []⟩ (by kernel_rfl) (fun τ hτ => ?_)
           obtain rfl := Option.some.inj h
           exact rk_ret hτ [(2, (vI 0))] (here (by kernel_rfl)) (by kernel_rfl)
        ·replace h := iteF hb h
         exact nomatch h
    ·replace h := iteF hb h
     exact nomatch h
   ·replace h := iteF hb h
    exact nomatch h
 ·replace h := iteF hb h
  exact nomatch h
theorem W.slices_Clone_Lapi_Rect_api_Rect_ok {s r : (List Rect)} (h : slices_Clone_Lapi_Rect_api_Rect s = some r) : PC G.P 78 [.sl (List.map c_Rect s)] [] (.row (.top 0) 59) [(0, .row 59 [] (List.map c_Rect r))] := by
 replace h : app [] s = some r := h
 refine pc_of G (fn := Try.f78) Try.func78 (by kernel_rfl) (by kernel_rfl) (by kernel_rfl) (by kernel_rfl) (by kernel_rfl) ?_
 refine z3 1 ⟨[(0, .sl (List.map c_Rect s))], []⟩ (by kernel_rfl) ?_
 refine sem_seq (by kernel_rfl) ?_
 refine z7 (by kernel_rfl) ?_
 refine evs_run 1 (by kernel_rfl) ?_
 refine evs_isnil (es := List.map c_Rect s) (by kernel_rfl) (fun hn => ?_) ?_
 ·obtain rfl : s = [] := List.map_eq_nil_iff.1 hn
  obtain rfl : [] = r := Option.some.inj ((app_eq (by simp [LIM])).symm.trans h)
  refine evs_endS (by kernel_rfl) (fun τ hτ => ?_)
  refine th_normalS hτ ⟨[(0, .sl (List.map c_Rect [])), (4, vB true)], []⟩ (here (by kernel_rfl)) ?_
  refine sem_condT (by kernel_rfl) (by kernel_rfl) ?_
  refine z8 1 ⟨[(2, .row (.top 2) 59)], [(2, .row 59 [] (List.map c_Rect []))]⟩ (by kernel_rfl) (fun τ hτ => ?_)
  refine th_ret ?_
  exact rk_ret hτ [(2, .row (.top 0) 59)] (subR_of [(2, 0)] rfl rfl (by kernel_rfl)) (by kernel_rfl)
 ·refine evs_endS (by kernel_rfl) (fun τ hτ => ?_)
  refine th_normalS hτ ⟨[(0, .sl (List.map c_Rect s)), (4, vB false)], []⟩ (here (by kernel_rfl)) ?_
  refine sem_condF (by kernel_rfl) (by kernel_rfl) ?_
  refine z4 ⟨[(0, .sl (List.map c_Rect s))], []⟩ (by kernel_rfl) ?_
  refine z7 (by kernel_rfl) ?_
  refine evs_at (at_build (es := List.map c_Rect []) (e := 59) (d := 5) (by kernel_rfl)) ?_
  refine evs_run 1 (by kernel_rfl) ?_
  refine evs_op (st_app (c := c_Rect) (l := []) (l2 := s) (x := .sl (List.map c_Rect s)) (g := 5) (e := 59) (sz := 4) (d := 7) (by kernel_rfl) (by kernel_rfl) (by kernel_rfl) (by kernel_rfl) (fun _ => rfl) rfl h) ?_
  refine z1 1 ⟨[(2, .row (.top 5) 59)], [(5, .row 59 [] (List.map c_Rect r))]⟩ (by kernel_rfl) ?_
  refine sem_retS (by kernel_rfl) (fun τ hτ => ?_)
  exact rk_ret hτ [(2, .row (.top 0) 59)] (subR_of [(5, 0)] rfl rfl (by kernel_rfl)) (by kernel_rfl)
theorem W.cut_back_k_ok {l : (List Rect)} {x1 : Int} {y : Int} {r : (List Rect)} (h : cut_back_k l x1 y = some r) : PC G.P 67 [(.sl (List.map c_Rect l)), (vI x1), (vI y)] [] (.row (.top 0) 59) [(0, .row 59 [] (List.map c_Rect r))] := by
 refine pc_of G (fn := Try.f67) Try.func67 (by kernel_rfl) (by kernel_rfl) (by kernel_rfl) (by kernel_rfl) (by kernel_rfl) ?_
 refine sem_set ⟨[(0, (.sl (List.map c_Rect l))), (1, (vI x1)), (2, (vI y))], []⟩ (by kernel_rfl) ?_
 refine z3 1 ⟨[(0, (.sl (List.map c_Rect l))), (1, (vI x1)), (2, (vI y))], []⟩ (by kernel_rfl) ?_
 refine z7 (by kernel_rfl) ?_
 refine evs_run 1 (by kernel_rfl) ?_
 obtain ⟨r2, hr2, h⟩ := bindS h
 refine evs_callS [] [(0, 700050)] [] (by kernel_rfl) (W.slices_Clone_Lapi_Rect_api_Rect_ok hr2) (by kernel_rfl) (by kernel_rfl) (.inl rfl) ?_
 refine z1 1 ⟨[(1, (vI x1)), (2, (vI y)), (7, (.row (.top 700050) 59))], [(700050, .row 59 [] (List.map c_Rect r2))]⟩ (by kernel_rfl) ?_
 refine sem_seq (by kernel_rfl) ?_
 refine z7 (by kernel_rfl) ?_
 refine evs_run 1 (by kernel_rfl) ?_
 refine evs_op (st_len (c := c_Rect) (l := r2) (x := (.row (.top 700050) 59)) (by kernel_rfl) (by kernel_rfl)) ?_
 refine z1 1 ⟨[(1, (vI x1)), (2, (vI y)), (7, (.row (.top 700050) 59)), (13, (vI (r2.length : Int))), (14, (vI 0))], [(700050, .row 59 [] (List.map c_Rect r2))]⟩ (by kernel_rfl) ?_
 refine sem_block (by kernel_rfl) ?_
 obtain ⟨x32, hx32, h⟩ := bindS h
 refine sem_loopS (fun (s23 : Int × (List Rect)) => ⟨[(1, (vI x1)), (2, (vI y)), (7, (.row (.top 500000) 59)), (13, (vI (r2.length : Int))), (14, (vI s23.1))], [(500000, .row 59 [] (List.map c_Rect s23.2))]⟩) (fun (x32 : (List Rect)) => (.exit 0, ⟨[(7, (.row (.top 500000) 59))], [(500000, .row 59 [] (List.map c_Rect x32))]⟩)) (cut_back_k_l1 x1 y r2) (0, r2) x32 (by kernel_rfl) (subR_prep [] [(700050, 500000)] (by kernel_rfl) rfl rfl (by kernel_rfl)) (iter_loop hx32) ?_ ?_ ?_
 ·intro s23 r h
  refine z3 1 ⟨[(1, (vI x1)), (2, (vI y)), (7, (.row (.top 500000) 59)), (13, (vI (r2.length : Int))), (14, (vI s23.1)), (15, (vB (decide (s23.1 < (r2.length : Int)))))], [(500000, .row 59 [] (List.map c_Rect s23.2))]⟩ (by kernel_rfl) ?_
  refine sem_seq (by kernel_rfl) ?_
  refine sem_cond (decide (s23.1 < (r2.length : Int))) (by kernel_rfl) (by kernel_rfl) (fun hb => ?_) (fun hb => ?_)
  ·replace h := iteT hb h
   refine z4 ⟨[(1, (vI x1)), (2, (vI y)), (7, (.row (.top 500000) 59)), (13, (vI (r2.length : Int))), (14, (vI s23.1))], [(500000, .row 59 [] (List.map c_Rect s23.2))]⟩ (by kernel_rfl) ?_
   refine sem_seq (by kernel_rfl) ?_
   refine sem_block (by kernel_rfl) ?_
   refine z3 2 ⟨[(1, (vI x1)), (2, (vI y)), (7, (.row (.top 500000) 59)), (8, (vI s23.1)), (13, (vI (r2.length : Int))), (14, (vI s23.1))], [(500000, .row 59 [] (List.map c_Rect s23.2))]⟩ (by kernel_rfl) ?_
   refine z7 (by kernel_rfl) ?_
   refine evs_run 2 (by kernel_rfl) ?_
   obtain ⟨x31, hx31, h⟩ := bindS h
   refine evs_op (st_idxO (c := c_Rect) (l := s23.2) (i := s23.1) (kd := .i64) (kk := (.top 500000)) (e := 59) (sz := 4) (by kernel_rfl) (by kernel_rfl) hx31 rfl) ?_
   refine z1 1 ⟨[(1, (vI x1)), (2, (vI y)), (7, (.row (.top 500000) 59)), (9, (.rptr (.top 500000) 59 (Int.toNat s23.1) 0)), (13, (vI (r2.length : Int))), (14, (vI s23.1))], [(500000, .row 59 [] (List.map c_Rect s23.2))]⟩ (by kernel_rfl) ?_
   refine sem_seq (by kernel_rfl) ?_
   refine z7 (by kernel_rfl) ?_
   refine evs_run 3 (by kernel_rfl) ?_
   refine evs_op (st_ldO (c := c_Rect) (l := s23.2) (i := (Int.toNat s23.1)) (v := (vI x31.X)) (agg := false) (sz := 1) (kk := (.top 500000)) (e := 59) (off := 0) (J := []) (by kernel_rfl) (by kernel_rfl) (by kernel_rfl) ((idxS hx31).2) (by kernel_rfl)) ?_
   refine evs_run 2 (by kernel_rfl) ?_
   refine evs_split (decide (x31.X < (-4194304))) (fun b0 => ⟨[(1, (vI x1)), (2, (vI y)), (7, (.row (.top 500000) 59)), (9, (.rptr (.top 500000) 59 (Int.toNat s23.1) 0)), (13, (vI (r2.length : Int))), (14, (vI s23.1)), (25, (vB b0))], [(500000, .row 59 [] (List.map c_Rect s23.2))]⟩) (by kernel_rfl) (fun hb => ?_) (fun hb => ?_)
   ·replace h := iteT hb h
    exact nomatch h
   ·replace h := iteF hb h
    refine evs_run 3 (by kernel_rfl) ?_
    refine evs_op (st_ldO (c := c_Rect) (l := s23.2) (i := (Int.toNat s23.1)) (v := (vI x31.X)) (agg := false) (sz := 1) (kk := (.top 500000)) (e := 59) (off := 0) (J := []) (by kernel_rfl) (by kernel_rfl) (by kernel_rfl) ((idxS hx31).2) (by kernel_rfl)) ?_
    refine evs_run 3 (by kernel_rfl) ?_
    refine evs_split (decide (x31.X > 4194304)) (fun b0 => ⟨[(1, (vI x1)), (2, (vI y)), (7, (.row (.top 500000) 59)), (9, (.rptr (.top 500000) 59 (Int.toNat s23.1) 0)), (13, (vI (r2.length : Int))), (14, (vI s23.1)), (26, (.rptr (.top 500000) 59 (Int.toNat s23.1) 0)), (27, (.rptr (.top 500000) 59 (Int.toNat s23.1) 0)), (28, (.rptr (.top 500000) 59 (Int.toNat s23.1) 0)), (29, (vI x31.X)), (30, (vB b0)), (32, (vB b0))], [(500000, .row 59 [] (List.map c_Rect s23.2))]⟩) (by kernel_rfl) (fun hb => ?_) (fun hb => ?_)
    ·replace h := iteT hb h
     exact nomatch h
    ·replace h := iteF hb h
     refine evs_run 3 (by kernel_rfl) ?_
     refine evs_op (st_ldO (c := c_Rect) (l := s23.2) (i := (Int.toNat s23.1)) (v := (vI x31.Y)) (agg := false) (sz := 1) (kk := (.top 500000)) (e := 59) (off := 1) (J := []) (by kernel_rfl) (by kernel_rfl) (by kernel_rfl) ((idxS hx31).2) (by kernel_rfl)) ?_
     refine evs_run 3 (by kernel_rfl) ?_
     refine evs_split (decide (x31.Y < (-4194304))) (fun b0 => ⟨[(1, (vI x1)), (2, (vI y)), (7, (.row (.top 500000) 59)), (9, (.rptr (.top 500000) 59 (Int.toNat s23.1) 0)), (13, (vI (r2.length : Int))), (14, (vI s23.1)), (26, (.rptr (.top 500000) 59 (Int.toNat s23.1) 0)), (27, (.rptr (.top 500000) 59 (Int.toNat s23.1) 0)), (28, (.rptr (.top 500000) 59 (Int.toNat s23.1) 0)), (29, (vI x31.X)), (30, (vB false)), (33, (.rptr (.top 500000) 59 (Int.toNat s23.1) 0)), (34, (.rptr (.top 500000) 59 (Int.toNat s23.1) 0)), (35, (.rptr (.top 500000) 59 (Int.toNat s23.1) 1)), (36, (vI x31.Y)), (37, (vB b0)), (39, (vB b0))], [(500000, .row 59 [] (List.map c_Rect s23.2))]⟩) (by kernel_rfl) (fun hb => ?_) (fun hb => ?_)
     ·replace h := iteT hb h
      exact nomatch h
     ·replace h := iteF hb h
      refine evs_run 3 (by kernel_rfl) ?_
      refine evs_op (st_ldO (c := c_Rect) (l := s23.2) (i := (Int.toNat s23.1)) (v := (vI x31.Y)) (agg := false) (sz := 1) (kk := (.top 500000)) (e := 59) (off := 1) (J := []) (by kernel_rfl) (by kernel_rfl) (by kernel_rfl) ((idxS hx31).2) (by kernel_rfl)) ?_
      refine z1 2 ⟨[(1, (vI x1)), (2, (vI y)), (7, (.row (.top 500000) 59)), (9, (.rptr (.top 500000) 59 (Int.toNat s23.1) 0)), (13, (vI (r2.length : Int))), (14, (vI s23.1)), (26, (.rptr (.top 500000) 59 (Int.toNat s23.1) 0)), (27, (.rptr (.top 500000) 59 (Int.toNat s23.1) 0)), (28, (.rptr (.top 500000) 59 (Int.toNat s23.1) 0)), (29, (vI x31.X)), (30, (vB false)), (33, (.rptr (.top 500000) 59 (Int.toNat s23.1) 0)), (34, (.rptr (.top 500000) 59 (Int.toNat s23.1) 0)), (35, (.rptr (.top 500000) 59 (Int.toNat s23.1) 1)), (36, (vI x31.Y)), (37, (vB false)), (40, (.rptr (.top 500000) 59 (Int.toNat s23.1) 0)), (41, (.rptr (.top 500000) 59 (Int.toNat s23.1) 0)), (42, (.rptr (.top 500000) 59 (Int.toNat s23.1) 1)), (43, (vI x31.Y)), (44, (vB (decide (x31.Y > 4194304)))), (45, (vB (decide (x31.Y > 4194304))))], [(500000, .row 59 [] (List.map c_Rect s23.2))]⟩ (by kernel_rfl) ?_
      refine sem_cond (decide (x31.Y > 4194304)) (by kernel_rfl) (by kernel_rfl) (fun hb => ?_) (fun hb => ?_)
      ·replace h := iteT hb h
       exact nomatch h
      ·replace h := iteF hb h
       refine z4 ⟨[(1, (vI x1)), (2, (vI y)), (7, (.row (.top 500000) 59)), (9, (.rptr (.top 500000) 59 (Int.toNat s23.1) 0)), (13, (vI (r2.length : Int))), (14, (vI s23.1)), (26, (.rptr (.top 500000) 59 (Int.toNat s23.1) 0)), (27, (.rptr (.top 500000) 59 (Int.toNat s23.1) 0)), (28, (.rptr (.top 500000) 59 (Int.toNat s23.1) 0)), (29, (vI x31.X)), (30, (vB false)), (33, (.rptr (.top 500000) 59 (Int.toNat s23.1) 0)), (34, (.rptr (.top 500000) 59 (Int.toNat s23.1) 0)), (35, (.rptr (.top 500000) 59 (Int.toNat s23.1) 1)), (36, (vI x31.Y)), (37, (vB false)), (40, (.rptr (.top 500000) 59 (Int.toNat s23.1) 0)), (41, (.rptr (.top 500000) 59 (Int.toNat s23.1) 0)), (42, (.rptr (.top 500000) 59 (Int.toNat s23.1) 1)), (43, (vI x31.Y)), (44, (vB (decide (x31.Y > 4194304))))], [(500000, .row 59 [] (List.map c_Rect s23.2))]⟩ (by kernel_rfl) ?_
       refine z7 (by kernel_rfl) ?_
       refine evs_run 3 (by kernel_rfl) ?_
       refine evs_op (st_ldO (c := c_Rect) (l := s23.2) (i := (Int.toNat s23.1)) (v := (vI x31.X)) (agg := false) (sz := 1) (kk := (.top 500000)) (e := 59) (off := 0) (J := []) (by kernel_rfl) (by kernel_rfl) (by kernel_rfl) ((idxS hx31).2) (by kernel_rfl)) ?_
       refine evs_run 4 (by kernel_rfl) ?_
       refine evs_op (st_stO (c := c_Rect) (l := s23.2) (i := (Int.toNat s23.1)) (x := x31) (x' := (Rect.mk (isub x31.X x1) x31.Y x31.W x31.H)) (v := (vI (isub x31.X x1))) (agg := false) (sz := 1) (kk := (.top 500000)) (e := 59) (off := 0) (J := []) (o := .row 59 [] (List.map c_Rect (List.set s23.2 (Int.toNat s23.1) (Rect.mk (isub x31.X x1) x31.Y x31.W x31.H)))) (by kernel_rfl) (by kernel_rfl) (by kernel_rfl) ((idxS hx31).2) (by kernel_rfl) (by kernel_rfl) (by kernel_rfl)) ?_
       refine evs_endS (by kernel_rfl) (fun τ hτ => ?_)
       refine th_normalS hτ ⟨[(1, (vI x1)), (2, (vI y)), (7, (.row (.top 500000) 59)), (9, (.rptr (.top 500000) 59 (Int.toNat s23.1) 0)), (13, (vI (r2.length : Int))), (14, (vI s23.1)), (26, (.rptr (.top 500000) 59 (Int.toNat s23.1) 0)), (27, (.rptr (.top 500000) 59 (Int.toNat s23.1) 0)), (28, (.rptr (.top 500000) 59 (Int.toNat s23.1) 0)), (29, (vI x31.X)), (30, (vB false)), (33, (.rptr (.top 500000) 59 (Int.toNat s23.1) 0)), (34, (.rptr (.top 500000) 59 (Int.toNat s23.1) 0)), (35, (.rptr (.top 500000) 59 (Int.toNat s23.1) 1)), (36, (vI x31.Y)), (37, (vB false)), (40, (.rptr (.top 500000) 59 (Int.toNat s23.1) 0)), (41, (.rptr (.top 500000) 59 (Int.toNat s23.1) 0)), (42, (.rptr (.top 500000) 59 (Int.toNat s23.1) 1)), (43, (vI x31.Y)), (44, (vB (decide (x31.Y > 4194304))))], [(500000, .row 59 [] (List.map c_Rect (List.set s23.2 (Int.toNat s23.1) (Rect.mk (isub x31.X x1) x31.Y x31.W x31.H))))]⟩ (here (by kernel_rfl)) ?_
       refine sem_region (by kernel_rfl) ?_
       refine evs_run 3 (by kernel_rfl) ?_
       refine evs_op (st_ldO (c := c_Rect) (l := (List.set s23.2 (Int.toNat s23.1) (Rect.mk (isub x31.X x1) x31.Y x31.W x31.H))) (i := (Int.toNat s23.1)) (v := (vI (((Rect.mk (isub x31.X x1) x31.Y x31.W x31.H)).Y))) (agg := false) (sz := 1) (kk := (.top 500000)) (e := 59) (off := 1) (J := []) (by kernel_rfl) (by kernel_rfl) (by kernel_rfl) (setget (((idxS hx31).2))) (by kernel_rfl)) ?_
       refine evs_run 4 (by kernel_rfl) ?_
       refine evs_op (st_stO (c := c_Rect) (l := (List.set s23.2 (Int.toNat s23.1) (Rect.mk (isub x31.X x1) x31.Y x31.W x31.H))) (i := (Int.toNat s23.1)) (x := (Rect.mk (isub x31.X x1) x31.Y x31.W x31.H)) (x' := (Rect.mk (((Rect.mk (isub x31.X x1) x31.Y x31.W x31.H)).X) (isub (((Rect.mk (isub x31.X x1) x31.Y x31.W x31.H)).Y) y) (((Rect.mk (isub x31.X x1) x31.Y x31.W x31.H)).W) (((Rect.mk (isub x31.X x1) x31.Y x31.W x31.H)).H))) (v := (vI (isub (((Rect.mk (isub x31.X x1) x31.Y x31.W x31.H)).Y) y))) (agg := false) (sz := 1) (kk := (.top 500000)) (e := 59) (off := 1) (J := []) (o := .row 59 [] (List.map c_Rect (List.set (List.set s23.2 (Int.toNat s23.1) (Rect.mk (isub x31.X x1) x31.Y x31.W x31.H)) (Int.toNat s23.1) (Rect.mk (((Rect.mk (isub x31.X x1) x31.Y x31.W x31.H)).X) (isub (((Rect.mk (isub x31.X x1) x31.Y x31.W x31.H)).Y) y) (((Rect.mk (isub x31.X x1) x31.Y x31.W x31.H)).W) (((Rect.mk (isub x31.X x1) x31.Y x31.W x31.H)).H))))) (by kernel_rfl) (by kernel_rfl) (by kernel_rfl) (setget (((idxS hx31).2))) (by kernel_rfl) (by kernel_rfl) (by kernel_rfl)) ?_
       refine evs_endS (by kernel_rfl) (fun τ hτ => ?_)
       refine bl_normal ?_
       refine th_normalS hτ ⟨[(1, (vI x1)), (2, (vI y)), (7, (.row (.top 500000) 59)), (13, (vI (r2.length : Int))), (14, (vI s23.1)), (26, (.rptr (.top 500000) 59 (Int.toNat s23.1) 0)), (27, (.rptr (.top 500000) 59 (Int.toNat s23.1) 0)), (28, (.rptr (.top 500000) 59 (Int.toNat s23.1) 0)), (29, (vI x31.X)), (30, (vB false)), (33, (.rptr (.top 500000) 59 (Int.toNat s23.1) 0)), (34, (.rptr (.top 500000) 59 (Int.toNat s23.1) 0)), (35, (.rptr (.top 500000) 59 (Int.toNat s23.1) 1)), (36, (vI x31.Y)), (37, (vB false)), (40, (.rptr (.top 500000) 59 (Int.toNat s23.1) 0)), (41, (.rptr (.top 500000) 59 (Int.toNat s23.1) 0)), (42, (.rptr (.top 500000) 59 (Int.toNat s23.1) 1)), (43, (vI x31.Y)), (44, (vB (decide (x31.Y > 4194304))))], [(500000, .row 59 [] (List.map c_Rect (List.set (List.set s23.2 (Int.toNat s23.1) (Rect.mk (isub x31.X x1) x31.Y x31.W x31.H)) (Int.toNat s23.1) (Rect.mk (((Rect.mk (isub x31.X x1) x31.Y x31.W x31.H)).X) (isub (((Rect.mk (isub x31.X x1) x31.Y x31.W x31.H)).Y) y) (((Rect.mk (isub x31.X x1) x31.Y x31.W x31.H)).W) (((Rect.mk (isub x31.X x1) x31.Y x31.W x31.H)).H)))))]⟩ (here (by kernel_rfl)) ?_
       refine sem_region (by kernel_rfl) ?_
       refine z6 2 (by kernel_rfl) (fun τ hτ => ?_)
       obtain rfl := Option.some.inj h
       exact lk_nextS hτ (here (by kernel_rfl))
  ·replace h := iteF hb h
   refine sem_exitS 0 (by kernel_rfl) rfl (fun τ hτ => ?_)
   refine th_exit ?_
   obtain rfl := Option.some.inj h
   exact lk_outS hτ rfl (here (by kernel_rfl))
 ·intro x
  rfl
 ·intro τ hτ
  refine bl_hit (by kernel_rfl) ?_
  refine th_normalS hτ ⟨[(7, (.row (.top 500000) 59))], [(500000, .row 59 [] (List.map c_Rect x32))]⟩ (here (by kernel_rfl)) ?_
  refine z8 2 ⟨[(6, (.row (.top 500000) 59))], [(500000, .row 59 [] (List.map c_Rect x32))]⟩ (by kernel_rfl) (fun τ hτ => ?_)
  obtain rfl := Option.some.inj h
  exact rk_ret hτ [(6, (.row (.top 0) 59))] (subR_prep [] [(500000, 0)] (by kernel_rfl) rfl rfl (by kernel_rfl)) (by kernel_rfl)
theorem W.nest_connected_k_ok {l : (List Rect)} {r : Bool} (h : nest_connected_k l = some r) : PC G.P 76 [(.sl (List.map c_Rect l))] [] (vB r) [] := by
 refine pc_of G (fn := Try.f76) Try.func76 (by kernel_rfl) (by kernel_rfl) (by kernel_rfl) (by kernel_rfl) (by kernel_rfl) ?_
 refine sem_set ⟨[(0, (.sl (List.map c_Rect l)))], []⟩ (by kernel_rfl) ?_
 refine z3 1 ⟨[(0, (.sl (List.map c_Rect l)))], []⟩ (by kernel_rfl) ?_
 refine z7 (by kernel_rfl) ?_
 refine evs_run 1 (by kernel_rfl) ?_
 refine evs_op (st_len (c := c_Rect) (l := l) (x := (.sl (List.map c_Rect l))) (by kernel_rfl) (by kernel_rfl)) ?_
 obtain ⟨l2, hl2, h⟩ := bindS h
 refine evs_op (st_mk (c := cB) (z := false) (n := (l.length : Int)) (e := 4) (d := 11) (zs := [(vB false)]) (k1 := .i64) (k2 := .i64) (by kernel_rfl) rfl hl2) ?_
 refine z1 1 ⟨[(0, (.sl (List.map c_Rect l))), (3, (.row (.top 11) 4))], [(11, .row 4 [] (List.map cB l2))]⟩ (by kernel_rfl) ?_
 refine z7 (by kernel_rfl) ?_
 refine evs_run 1 (by kernel_rfl) ?_
 obtain ⟨x4, hx4, h⟩ := bindS h
 refine evs_op (st_idxO (c := cB) (l := l2) (i := 0) (kd := .i64) (kk := (.top 11)) (e := 4) (sz := 1) (by kernel_rfl) (by kernel_rfl) hx4 rfl) ?_
 refine evs_op (st_stO (c := cB) (l := l2) (i := (Int.toNat 0)) (x := x4) (x' := true) (v := (vB true)) (agg := false) (sz := 1) (kk := (.top 11)) (e := 4) (off := 0) (J := []) (o := .row 4 [] (List.map cB (List.set l2 (Int.toNat 0) true))) (by kernel_rfl) (by kernel_rfl) (by kernel_rfl) ((idxS hx4).2) (by kernel_rfl) (by kernel_rfl) (by kernel_rfl)) ?_
 refine evs_endS (by kernel_rfl) (fun τ hτ => ?_)
 refine th_normalS hτ ⟨[(0, (.sl (List.map c_Rect l))), (3, (.row (.top 11) 4))], [(11, .row 4 [] (List.map cB (List.set l2 (Int.toNat 0) true)))]⟩ (here (by kernel_rfl)) ?_
 refine z7 (by kernel_rfl) ?_
 refine evs_at (at_build (e := 3) (d := 14) (es := (List.map cI [0])) (by kernel_rfl)) ?_
 refine evs_toTl (g := 14) (e := 3) (l := [0]) (by kernel_rfl) (by kernel_rfl) (by kernel_rfl) ?_
 refine z1 1 ⟨[(0, (.sl (List.map c_Rect l))), (3, (.row (.top 11) 4)), (4, (.row (.top 14) 3))], [(11, .row 4 [] (List.map cB (List.set l2 (Int.toNat 0) true))), (14, .tl 3 [0])]⟩ (by kernel_rfl) ?_
 refine sem_seq (by kernel_rfl) ?_
 refine sem_block (by kernel_rfl) ?_
 obtain ⟨x148, hx148, h⟩ := bindS h
 refine sem_loopS (fun (s101 : (List Int)) => ⟨[(0, (.sl (List.map c_Rect l))), (3, (.row (.top 500000) 4)), (4, (.row (.top 500001) 3))], [(500000, .row 4 [] (List.map cB (List.set l2 (Int.toNat 0) true))), (500001, .tl 3 s101)]⟩) (fun (x148 : Unit) => (.exit 0, ⟨[(3, (.row (.top 500000) 4))], [(500000, .row 4 [] (List.map cB (List.set l2 (Int.toNat 0) true)))]⟩)) (nest_connected_k_l2 l l2) [0] x148 (by kernel_rfl) (subR_prep [] [(11, 500000), (14, 500001)] (by kernel_rfl) rfl rfl (by kernel_rfl)) (iter_loop hx148) ?_ ?_ ?_
 ·intro s101 r h
  refine sem_seq (by kernel_rfl) ?_
  refine z7 (by kernel_rfl) ?_
  refine evs_run 1 (by kernel_rfl) ?_
  refine evs_at (at_lenT (g := 500001) (e := 3) (l := s101) (by kernel_rfl) (by kernel_rfl)) ?_
  refine z1 1 ⟨[(0, (.sl (List.map c_Rect l))), (3, (.row (.top 500000) 4)), (4, (.row (.top 500001) 3)), (17, (vB (decide ((s101.length : Int) > 0))))], [(500000, .row 4 [] (List.map cB (List.set l2 (Int.toNat 0) true))), (500001, .tl 3 s101)]⟩ (by kernel_rfl) ?_
  refine sem_cond (decide ((s101.length : Int) > 0)) (by kernel_rfl) (by kernel_rfl) (fun hb => ?_) (fun hb => ?_)
  ·replace h := iteT hb h
   refine z4 ⟨[(0, (.sl (List.map c_Rect l))), (3, (.row (.top 500000) 4)), (4, (.row (.top 500001) 3))], [(500000, .row 4 [] (List.map cB (List.set l2 (Int.toNat 0) true))), (500001, .tl 3 s101)]⟩ (by kernel_rfl) ?_
   refine sem_block (by kernel_rfl) ?_
   refine z7 (by kernel_rfl) ?_
   refine evs_run 1 (by kernel_rfl) ?_
   obtain ⟨x126, hx126, h⟩ := bindS h
   refine evs_getT (g := 500001) (e := 3) (d1 := 19) (d2 := 20) (l := s101) (i := 0) (kd := .i64) (by kernel_rfl) (by kernel_rfl) (by kernel_rfl) hx126 ?_
   refine z1 1 ⟨[(0, (.sl (List.map c_Rect l))), (3, (.row (.top 500000) 4)), (4, (.row (.top 500001) 3)), (5, (vI x126))], [(500000, .row 4 [] (List.map cB (List.set l2 (Int.toNat 0) true))), (500001, .tl 3 s101)]⟩ (by kernel_rfl) ?_
   refine z7 (by kernel_rfl) ?_
   refine evs_run 1 (by kernel_rfl) ?_
   obtain ⟨hb1, h⟩ := iteN h
   refine evs_at (at_dropT (g := 500001) (e := 3) (n := 1) (kd := .i64) (l := s101) (by kernel_rfl) (by kernel_rfl) (by kernel_rfl) hb1) ?_
   refine z1 1 ⟨[(0, (.sl (List.map c_Rect l))), (3, (.row (.top 500000) 4)), (4, (.row (.top 500001) 3)), (5, (vI x126))], [(500000, .row 4 [] (List.map cB (List.set l2 (Int.toNat 0) true))), (500001, .tl 3 (List.drop 1 s101))]⟩ (by kernel_rfl) ?_
   refine z7 (by kernel_rfl) ?_
   refine evs_run 1 (by kernel_rfl) ?_
   refine evs_op (st_len (c := c_Rect) (l := l) (x := (.sl (List.map c_Rect l))) (by kernel_rfl) (by kernel_rfl)) ?_
   refine z1 1 ⟨[(0, (.sl (List.map c_Rect l))), (3, (.row (.top 500000) 4)), (4, (.row (.top 500001) 3)), (5, (vI x126)), (24, (vI (l.length : Int))), (25, (vI 0))], [(500000, .row 4 [] (List.map cB (List.set l2 (Int.toNat 0) true))), (500001, .tl 3 (List.drop 1 s101))]⟩ (by kernel_rfl) ?_
   refine sem_block (by kernel_rfl) ?_
   obtain ⟨x147, hx147, h⟩ := bindS h
   refine sem_loopS (fun (s134 : Int) => ⟨[(0, (.sl (List.map c_Rect l))), (3, (.row (.top 500000) 4)), (4, (.row (.top 500001) 3)), (5, (vI x126)), (24, (vI (l.length : Int))), (25, (vI s134))], [(500000, .row 4 [] (List.map cB (List.set l2 (Int.toNat 0) true))), (500001, .tl 3 (List.drop 1 s101))]⟩) (fun (x147 : Unit) => (.exit 2, ⟨[(0, (.sl (List.map c_Rect l))), (3, (.row (.top 500000) 4)), (4, (.row (.top 500001) 3))], [(500000, .row 4 [] (List.map cB (List.set l2 (Int.toNat 0) true))), (500001, .tl 3 (List.drop 1 s101))]⟩)) (nest_connected_k_l1 l l2) 0 x147 (by kernel_rfl) (here (by kernel_rfl)) (iter_loop hx147) ?_ ?_ ?_
   ·intro s134 r h
    refine z3 1 ⟨[(0, (.sl (List.map c_Rect l))), (3, (.row (.top 500000) 4)), (4, (.row (.top 500001) 3)), (5, (vI x126)), (24, (vI (l.length : Int))), (25, (vI s134)), (26, (vB (decide (s134 < (l.length : Int)))))], [(500000, .row 4 [] (List.map cB (List.set l2 (Int.toNat 0) true))), (500001, .tl 3 (List.drop 1 s101))]⟩ (by kernel_rfl) ?_
    refine sem_seq (by kernel_rfl) ?_
    refine sem_cond (decide (s134 < (l.length : Int))) (by kernel_rfl) (by kernel_rfl) (fun hb => ?_) (fun hb => ?_)
    ·replace h := iteT hb h
     refine z4 ⟨[(0, (.sl (List.map c_Rect l))), (3, (.row (.top 500000) 4)), (4, (.row (.top 500001) 3)), (5, (vI x126)), (24, (vI (l.length : Int))), (25, (vI s134))], [(500000, .row 4 [] (List.map cB (List.set l2 (Int.toNat 0) true))), (500001, .tl 3 (List.drop 1 s101))]⟩ (by kernel_rfl) ?_
     refine sem_seq (by kernel_rfl) ?_
     refine sem_block (by kernel_rfl) ?_
     refine z3 2 ⟨[(0, (.sl (List.map c_Rect l))), (3, (.row (.top 500000) 4)), (4, (.row (.top 500001) 3)), (5, (vI x126)), (6, (vI s134)), (24, (vI (l.length : Int))), (25, (vI s134))], [(500000, .row 4 [] (List.map cB (List.set l2 (Int.toNat 0) true))), (500001, .tl 3 (List.drop 1 s101))]⟩ (by kernel_rfl) ?_
     refine sem_seq (by kernel_rfl) ?_
     refine sem_drawN [] [] [] [] [] 14 (by kernel_rfl) (by kernel_rfl) (by kernel_rfl) ?_
     refine evd_run 2 (by kernel_rfl) ?_
     obtain ⟨x146, hx146, h⟩ := bindS h
     refine evd_val (by kernel_rfl) (st_idxO (c := cB) (l := (List.set l2 (Int.toNat 0) true)) (i := s134) (kd := .i64) (kk := (.top 500000)) (e := 4) (sz := 1) (by kernel_rfl) (by kernel_rfl) hx146 rfl) (by kernel_rfl) (by kernel_rfl) ?_
     refine evd_val (by kernel_rfl) (st_ldO (c := cB) (l := (List.set l2 (Int.toNat 0) true)) (i := (Int.toNat s134)) (v := (vB x146)) (agg := false) (sz := 1) (kk := (.top 500000)) (e := 4) (off := 0) (J := []) (by kernel_rfl) (by kernel_rfl) (by kernel_rfl) ((idxS hx146).2) (by kernel_rfl)) (by kernel_rfl) (by kernel_rfl) ?_
     refine evd_run 2 (by kernel_rfl) ?_
     refine evd_split x146 (fun b0 => ⟨[(33, (vB (!b0))), (32, (vB (!b0))), (31, (vB b0)), (30, (.rptr (.top 500000) 4 (Int.toNat s134) 0)), (29, (vI s134)), (28, (.row (.top 500000) 4)), (0, (.sl (List.map c_Rect l))), (3, (.row (.top 500000) 4)), (4, (.row (.top 500001) 3)), (5, (vI x126)), (6, (vI s134)), (24, (vI (l.length : Int))), (25, (vI s134))], [(500000, .row 4 [] (List.map cB (List.set l2 (Int.toNat 0) true))), (500001, .tl 3 (List.drop 1 s101))]⟩) (by kernel_rfl) (fun hb => ?_) (fun hb => ?_)
     ·replace h := iteT hb h
      refine evd_run 8 (by kernel_rfl) ?_
      refine evd_end (by kernel_rfl) ?_
      refine evo_run 2 (by kernel_rfl) ?_
      refine evo_endS (by kernel_rfl) (fun τ hτ => ?_)
      refine th_normalS hτ ⟨[(0, (.sl (List.map c_Rect l))), (3, (.row (.top 500000) 4)), (4, (.row (.top 500001) 3)), (5, (vI x126)), (6, (vI s134)), (24, (vI (l.length : Int))), (25, (vI s134)), (34, vU), (35, vU), (36, vU), (37, vU), (38, vU), (39, vU), (40, vU), (41, vU), (42, vU), (43, (vB false))], [(500000, .row 4 [] (List.map cB (List.set l2 (Int.toNat 0) true))), (500001, .tl 3 (List.drop 1 s101))]⟩ (here (by kernel_rfl)) ?_
      refine sem_condF (by kernel_rfl) (by kernel_rfl) ?_
      refine sem_skipS (by kernel_rfl) (fun τ hτ => ?_)
      refine bl_normal ?_
      refine th_normalS hτ ⟨[(0, (.sl (List.map c_Rect l))), (3, (.row (.top 500000) 4)), (4, (.row (.top 500001) 3)), (5, (vI x126)), (24, (vI (l.length : Int))), (25, (vI s134)), (34, vU), (35, vU), (36, vU), (37, vU), (38, vU), (39, vU), (40, vU), (41, vU), (42, vU)], [(500000, .row 4 [] (List.map cB (List.set l2 (Int.toNat 0) true))), (500001, .tl 3 (List.drop 1 s101))]⟩ (here (by kernel_rfl)) ?_
      refine sem_region (by kernel_rfl) ?_
      refine z6 2 (by kernel_rfl) (fun τ hτ => ?_)
      obtain rfl := Option.some.inj h
      exact lk_nextS hτ (here (by kernel_rfl))
     ·replace h := iteF hb h
      exact nomatch h
    ·replace h := iteF hb h
     refine sem_exitS 2 (by kernel_rfl) rfl (fun τ hτ => ?_)
     refine th_exit ?_
     obtain rfl := Option.some.inj h
     exact lk_outS hτ rfl (here (by kernel_rfl))
   ·intro x
    rfl
   ·intro τ hτ
    refine bl_hit (by kernel_rfl) ?_
    refine bl_normal ?_
    obtain rfl := Option.some.inj h
    exact lk_nextS hτ (here (by kernel_rfl))
  ·replace h := iteF hb h
   refine sem_exitS 0 (by kernel_rfl) rfl (fun τ hτ => ?_)
   refine th_exit ?_
   obtain rfl := Option.some.inj h
   exact lk_outS hτ rfl (here (by kernel_rfl))
 ·intro x
  rfl
 ·intro τ hτ
  refine bl_hit (by kernel_rfl) ?_
  refine th_normalS hτ ⟨[(3, (.row (.top 500000) 4))], [(500000, .row 4 [] (List.map cB (List.set l2 (Int.toNat 0) true)))]⟩ (here (by kernel_rfl)) ?_
  refine sem_seq (by kernel_rfl) ?_
  refine z7 (by kernel_rfl) ?_
  refine evs_run 1 (by kernel_rfl) ?_
  refine evs_op (st_len (c := cB) (l := (List.set l2 (Int.toNat 0) true)) (x := (.row (.top 500000) 4)) (by kernel_rfl) (by kernel_rfl)) ?_
  refine z1 1 ⟨[(52, (.row (.top 500000) 4)), (53, (vI ((List.set l2 (Int.toNat 0) true).length : Int))), (54, (vI 0))], [(500000, .row 4 [] (List.map cB (List.set l2 (Int.toNat 0) true)))]⟩ (by kernel_rfl) ?_
  refine sem_block (by kernel_rfl) ?_
  obtain ⟨x178, hx178, h⟩ := bindS h
  refine sem_loopS (fun (s169 : Int) => ⟨[(52, (.row (.top 500000) 4)), (53, (vI ((List.set l2 (Int.toNat 0) true).length : Int))), (54, (vI s169))], [(500000, .row 4 [] (List.map cB (List.set l2 (Int.toNat 0) true)))]⟩) (fun (x178 : Unit) => (.exit 4, ⟨[], []⟩)) (nest_connected_k_l3 l2) 0 x178 (by kernel_rfl) (here (by kernel_rfl)) (iter_loop hx178) ?_ ?_ ?_
  ·intro s169 r h
   refine z3 1 ⟨[(52, (.row (.top 500000) 4)), (53, (vI ((List.set l2 (Int.toNat 0) true).length : Int))), (54, (vI s169)), (55, (vB (decide (s169 < ((List.set l2 (Int.toNat 0) true).length : Int)))))], [(500000, .row 4 [] (List.map cB (List.set l2 (Int.toNat 0) true)))]⟩ (by kernel_rfl) ?_
   refine sem_seq (by kernel_rfl) ?_
   refine sem_cond (decide (s169 < ((List.set l2 (Int.toNat 0) true).length : Int))) (by kernel_rfl) (by kernel_rfl) (fun hb => ?_) (fun hb => ?_)
   ·replace h := iteT hb h
    refine z4 ⟨[(52, (.row (.top 500000) 4)), (53, (vI ((List.set l2 (Int.toNat 0) true).length : Int))), (54, (vI s169))], [(500000, .row 4 [] (List.map cB (List.set l2 (Int.toNat 0) true)))]⟩ (by kernel_rfl) ?_
    refine sem_seq (by kernel_rfl) ?_
    refine sem_block (by kernel_rfl) ?_
    refine z7 (by kernel_rfl) ?_
    obtain ⟨x177, hx177, h⟩ := bindS h
    refine evs_op (st_idxO (c := cB) (l := (List.set l2 (Int.toNat 0) true)) (i := s169) (kd := .i64) (kk := (.top 500000)) (e := 4) (sz := 1) (by kernel_rfl) (by kernel_rfl) hx177 rfl) ?_
    refine evs_op (st_ldO (c := cB) (l := (List.set l2 (Int.toNat 0) true)) (i := (Int.toNat s169)) (v := (vB x177)) (agg := false) (sz := 1) (kk := (.top 500000)) (e := 4) (off := 0) (J := []) (by kernel_rfl) (by kernel_rfl) (by kernel_rfl) ((idxS hx177).2) (by kernel_rfl)) ?_
    refine z1 1 ⟨[(8, (vB x177)), (52, (.row (.top 500000) 4)), (53, (vI ((List.set l2 (Int.toNat 0) true).length : Int))), (54, (vI s169))], [(500000, .row 4 [] (List.map cB (List.set l2 (Int.toNat 0) true)))]⟩ (by kernel_rfl) ?_
    refine z3 2 ⟨[(52, (.row (.top 500000) 4)), (53, (vI ((List.set l2 (Int.toNat 0) true).length : Int))), (54, (vI s169)), (59, (vB (!x177)))], [(500000, .row 4 [] (List.map cB (List.set l2 (Int.toNat 0) true)))]⟩ (by kernel_rfl) ?_
    refine sem_cond (!x177) (by kernel_rfl) (by kernel_rfl) (fun hb => ?_) (fun hb => ?_)
    ·replace h := iteT hb h
     exact nomatch h
    ·replace h := iteF hb h
     refine sem_skipS (by kernel_rfl) (fun τ hτ => ?_)
     refine bl_normal ?_
     refine th_normalS hτ ⟨[(52, (.row (.top 500000) 4)), (53, (vI ((List.set l2 (Int.toNat 0) true).length : Int))), (54, (vI s169))], [(500000, .row 4 [] (List.map cB (List.set l2 (Int.toNat 0) true)))]⟩ (here (by kernel_rfl)) ?_
     refine sem_region (by kernel_rfl) ?_
     refine z6 2 (by kernel_rfl) (fun τ hτ => ?_)
     obtain rfl := Option.some.inj h
     exact lk_nextS hτ (here (by kernel_rfl))
   ·replace h := iteF hb h
    refine sem_exitS 4 (by kernel_rfl) rfl (fun τ hτ => ?_)
    refine th_exit ?_
    obtain rfl := Option.some.inj h
    exact lk_outS hτ rfl (here (by kernel_rfl))
  ·intro x
   rfl
  ·intro τ hτ
   refine bl_hit (by kernel_rfl) ?_
   refine th_normalS hτ ⟨[], []⟩ (here (by kernel_rfl)) ?_
   refine z8 1 ⟨[(2, (vB true))], []⟩ (by kernel_rfl) (fun τ hτ => ?_)
   obtain rfl := Option.some.inj h
   exact rk_ret hτ [(2, (vB true))] (here (by kernel_rfl)) (by kernel_rfl)
theorem W.nest_inside_k_ok {x0 : Piece} {r : Int} (h : nest_inside_k x0 = some r) : PC G.P 77 [(.agg [(vS x0.Name), (vS x0.Material), (vI x0.Gauge), (vI x0.Grain), (.sl (List.map c_Rect x0.Rects)), (.sl (List.map c_Rect x0.Cuts)), (.sl (List.map c_Rect x0.Forms))])] [] (vI r) [] := by
 refine pc_of G (fn := Try.f77) Try.func77 (by kernel_rfl) (by kernel_rfl) (by kernel_rfl) (by kernel_rfl) (by kernel_rfl) ?_
 refine sem_set ⟨[(0, (.agg [(vS x0.Name), (vS x0.Material), (vI x0.Gauge), (vI x0.Grain), (.sl (List.map c_Rect x0.Rects)), (.sl (List.map c_Rect x0.Cuts)), (.sl (List.map c_Rect x0.Forms))]))], []⟩ (by kernel_rfl) ?_
 refine z3 2 ⟨[(1, (.ptr 1 0))], [(1, .box [(vS x0.Name), (vS x0.Material), (vI x0.Gauge), (vI x0.Grain), (.sl (List.map c_Rect x0.Rects)), (.sl (List.map c_Rect x0.Cuts)), (.sl (List.map c_Rect x0.Forms))])]⟩ (by kernel_rfl) ?_
 refine sem_seq (by kernel_rfl) ?_
 refine sem_draw [(2, [12])] [(2, [12])] [] [(3, [12]), (4, [12])] [(0, [12]), (1, [12]), (3, [12]), (4, [12])] 5 (by kernel_rfl) (by kernel_rfl) [12] (by kernel_rfl) (by kernel_rfl) ?_
 refine evd_run 2 (by kernel_rfl) ?_
 obtain ⟨l5, hl5, h⟩ := bindS h
 refine evd_new (by kernel_rfl) (st_appN (c := c_Rect) (l2 := x0.Cuts) (x := (.sl (List.map c_Rect x0.Cuts))) (e := 59) (sz := 4) (d := 12) (by kernel_rfl) (by kernel_rfl) (by kernel_rfl) (fun _ => rfl) hl5) (by kernel_rfl) (by kernel_rfl) (by kernel_rfl) (by kernel_rfl) ?_
 refine evd_run 2 (by kernel_rfl) ?_
 refine evd_end (by kernel_rfl) ?_
 obtain ⟨l6, hl6, h⟩ := bindS h
 refine evo_op (st_app (c := c_Rect) (l := l5) (l2 := x0.Forms) (x := (.sl (List.map c_Rect x0.Forms))) (g := 12) (e := 59) (sz := 4) (d := 15) (by kernel_rfl) (by kernel_rfl) (by kernel_rfl) (by kernel_rfl) (fun _ => rfl) rfl hl6) ?_
 refine evo_run 1 (by kernel_rfl) ?_
 refine evo_endS (by kernel_rfl) (fun τ hτ => ?_)
 refine th_normalS hτ ⟨[(1, (.ptr 1 0)), (3, (.row (.top 12) 59))], [(1, .box [(vS x0.Name), (vS x0.Material), (vI x0.Gauge), (vI x0.Grain), (.sl (List.map c_Rect x0.Rects)), (.sl (List.map c_Rect x0.Cuts)), (.sl (List.map c_Rect x0.Forms))]), (12, .row 59 [] (List.map c_Rect l6))]⟩ (here (by kernel_rfl)) ?_
 refine sem_seq (by kernel_rfl) ?_
 refine z7 (by kernel_rfl) ?_
 refine evs_run 1 (by kernel_rfl) ?_
 refine evs_op (st_len (c := c_Rect) (l := l6) (x := (.row (.top 12) 59)) (by kernel_rfl) (by kernel_rfl)) ?_
 refine z1 1 ⟨[(1, (.ptr 1 0)), (3, (.row (.top 12) 59)), (16, (.row (.top 12) 59)), (17, (vI (l6.length : Int))), (18, (vI 0))], [(1, .box [(vS x0.Name), (vS x0.Material), (vI x0.Gauge), (vI x0.Grain), (.sl (List.map c_Rect x0.Rects)), (.sl (List.map c_Rect x0.Cuts)), (.sl (List.map c_Rect x0.Forms))]), (12, .row 59 [] (List.map c_Rect l6))]⟩ (by kernel_rfl) ?_
 refine sem_block (by kernel_rfl) ?_
 obtain ⟨x10, hx10, h⟩ := bindS h
 refine sem_loopS (fun (s9 : Unit) => ⟨[(1, (.ptr 500000 0)), (3, (.row (.top 500001) 59)), (16, (.row (.top 500001) 59)), (17, (vI (l6.length : Int))), (18, (vI 0))], [(500000, .box [(vS x0.Name), (vS x0.Material), (vI x0.Gauge), (vI x0.Grain), (.sl (List.map c_Rect x0.Rects)), (.sl (List.map c_Rect x0.Cuts)), (.sl (List.map c_Rect x0.Forms))]), (500001, .row 59 [] (List.map c_Rect l6))]⟩) (fun (x10 : Unit) => (.exit 0, ⟨[(3, (.row (.top 500000) 59))], [(500000, .row 59 [] (List.map c_Rect l6))]⟩)) (nest_inside_k_l1 l6) () x10 (by kernel_rfl) (subR_prep [] [(1, 500000), (12, 500001)] (by kernel_rfl) rfl rfl (by kernel_rfl)) (iter_loop hx10) ?_ ?_ ?_
 ·intro s9 r h
  refine z3 1 ⟨[(1, (.ptr 500000 0)), (3, (.row (.top 500001) 59)), (16, (.row (.top 500001) 59)), (17, (vI (l6.length : Int))), (18, (vI 0)), (19, (vB (decide (0 < (l6.length : Int)))))], [(500000, .box [(vS x0.Name), (vS x0.Material), (vI x0.Gauge), (vI x0.Grain), (.sl (List.map c_Rect x0.Rects)), (.sl (List.map c_Rect x0.Cuts)), (.sl (List.map c_Rect x0.Forms))]), (500001, .row 59 [] (List.map c_Rect l6))]⟩ (by kernel_rfl) ?_
  refine sem_seq (by kernel_rfl) ?_
  refine sem_cond (decide (0 < (l6.length : Int))) (by kernel_rfl) (by kernel_rfl) (fun hb => ?_) (fun hb => ?_)
  ·replace h := iteT hb h
   exact nomatch h
  ·replace h := iteF hb h
   refine sem_exitS 0 (by kernel_rfl) rfl (fun τ hτ => ?_)
   refine th_exit ?_
   obtain rfl := Option.some.inj h
   exact lk_outS hτ rfl (subR_prep [] [(500001, 500000)] (by kernel_rfl) rfl rfl (by kernel_rfl))
 ·intro x
  rfl
 ·intro τ hτ
  refine bl_hit (by kernel_rfl) ?_
  refine th_normalS hτ ⟨[(3, (.row (.top 500000) 59))], [(500000, .row 59 [] (List.map c_Rect l6))]⟩ (here (by kernel_rfl)) ?_
  refine sem_seq (by kernel_rfl) ?_
  refine z7 (by kernel_rfl) ?_
  refine evs_run 1 (by kernel_rfl) ?_
  refine evs_op (st_len (c := c_Rect) (l := l6) (x := (.row (.top 500000) 59)) (by kernel_rfl) (by kernel_rfl)) ?_
  refine z1 1 ⟨[(3, (.row (.top 500000) 59)), (46, (.row (.top 500000) 59)), (47, (vI (l6.length : Int))), (48, (vI 0))], [(500000, .row 59 [] (List.map c_Rect l6))]⟩ (by kernel_rfl) ?_
  refine sem_block (by kernel_rfl) ?_
  obtain ⟨x14, hx14, h⟩ := bindS h
  refine sem_loopS (fun (s13 : Unit) => ⟨[(3, (.row (.top 500000) 59)), (46, (.row (.top 500000) 59)), (47, (vI (l6.length : Int))), (48, (vI 0))], [(500000, .row 59 [] (List.map c_Rect l6))]⟩) (fun (x14 : Unit) => (.exit 2, ⟨[], []⟩)) (nest_inside_k_l2 l6) () x14 (by kernel_rfl) (here (by kernel_rfl)) (iter_loop hx14) ?_ ?_ ?_
  ·intro s13 r h
   refine z3 1 ⟨[(3, (.row (.top 500000) 59)), (46, (.row (.top 500000) 59)), (47, (vI (l6.length : Int))), (48, (vI 0)), (49, (vB (decide (0 < (l6.length : Int)))))], [(500000, .row 59 [] (List.map c_Rect l6))]⟩ (by kernel_rfl) ?_
   refine sem_seq (by kernel_rfl) ?_
   refine sem_cond (decide (0 < (l6.length : Int))) (by kernel_rfl) (by kernel_rfl) (fun hb => ?_) (fun hb => ?_)
   ·replace h := iteT hb h
    exact nomatch h
   ·replace h := iteF hb h
    refine sem_exitS 2 (by kernel_rfl) rfl (fun τ hτ => ?_)
    refine th_exit ?_
    obtain rfl := Option.some.inj h
    exact lk_outS hτ rfl (here (by kernel_rfl))
  ·intro x
   rfl
  ·intro τ hτ
   refine bl_hit (by kernel_rfl) ?_
   refine th_normalS hτ ⟨[], []⟩ (here (by kernel_rfl)) ?_
   refine z8 1 ⟨[(2, (vI 0))], []⟩ (by kernel_rfl) (fun τ hτ => ?_)
   obtain rfl := Option.some.inj h
   exact rk_ret hτ [(2, (vI 0))] (here (by kernel_rfl)) (by kernel_rfl)
theorem W.nest_ValidatePiece_k_ok {x0 : Piece} {r : Int} (h : nest_ValidatePiece_k x0 = some r) : PC G.P 66 [(.agg [(vS x0.Name), (vS x0.Material), (vI x0.Gauge), (vI x0.Grain), (.sl (List.map c_Rect x0.Rects)), (.sl (List.map c_Rect x0.Cuts)), (.sl (List.map c_Rect x0.Forms))])] [] (vI r) [] := by
 refine pc_of G (fn := Try.f66) Try.func66 (by kernel_rfl) (by kernel_rfl) (by kernel_rfl) (by kernel_rfl) (by kernel_rfl) ?_
 refine sem_set ⟨[(0, (.agg [(vS x0.Name), (vS x0.Material), (vI x0.Gauge), (vI x0.Grain), (.sl (List.map c_Rect x0.Rects)), (.sl (List.map c_Rect x0.Cuts)), (.sl (List.map c_Rect x0.Forms))]))], []⟩ (by kernel_rfl) ?_
 refine z3 2 ⟨[(1, (.ptr 1 0))], [(1, .box [(vS x0.Name), (vS x0.Material), (vI x0.Gauge), (vI x0.Grain), (.sl (List.map c_Rect x0.Rects)), (.sl (List.map c_Rect x0.Cuts)), (.sl (List.map c_Rect x0.Forms))])]⟩ (by kernel_rfl) ?_
 refine sem_seq (by kernel_rfl) ?_
 refine sem_block (by kernel_rfl) ?_
 refine z7 (by kernel_rfl) ?_
 refine evs_run 2 (by kernel_rfl) ?_
 obtain ⟨r15, hr15, h⟩ := bindS h
 refine evs_callP [] (by kernel_rfl) (W.part_ValidName_k_ok hr15) (by kernel_rfl) (.inl rfl) (by kernel_rfl) ?_
 refine evs_run 2 (by kernel_rfl) ?_
 refine evs_split r15 (fun b0 => ⟨[(1, (.ptr 1 0)), (16, (vB (!b0)))], [(1, .box [(vS x0.Name), (vS x0.Material), (vI x0.Gauge), (vI x0.Grain), (.sl (List.map c_Rect x0.Rects)), (.sl (List.map c_Rect x0.Cuts)), (.sl (List.map c_Rect x0.Forms))])]⟩) (by kernel_rfl) (fun hb => ?_) (fun hb => ?_)
 ·replace h := iteT hb h
  refine evs_run 2 (by kernel_rfl) ?_
  obtain ⟨r16, hr16, h⟩ := bindS h
  refine evs_callP [] (by kernel_rfl) (W.part_ValidName_k_ok hr16) (by kernel_rfl) (.inl rfl) (by kernel_rfl) ?_
  refine z1 3 ⟨[(1, (.ptr 1 0)), (11, (vB (!r16)))], [(1, .box [(vS x0.Name), (vS x0.Material), (vI x0.Gauge), (vI x0.Grain), (.sl (List.map c_Rect x0.Rects)), (.sl (List.map c_Rect x0.Cuts)), (.sl (List.map c_Rect x0.Forms))])]⟩ (by kernel_rfl) ?_
  refine sem_cond (!r16) (by kernel_rfl) (by kernel_rfl) (fun hb => ?_) (fun hb => ?_)
  ·replace h := iteT hb h
   exact nomatch h
  ·replace h := iteF hb h
   refine z7 (by kernel_rfl) ?_
   refine evs_run 4 (by kernel_rfl) ?_
   obtain ⟨r18, hr18, h⟩ := bindS h
   refine evs_callP [] (by kernel_rfl) (W.nest_plain_k_ok hr18) (by kernel_rfl) (.inl rfl) (by kernel_rfl) ?_
   refine z1 2 ⟨[(1, (.ptr 1 0)), (22, (vB (!r18)))], [(1, .box [(vS x0.Name), (vS x0.Material), (vI x0.Gauge), (vI x0.Grain), (.sl (List.map c_Rect x0.Rects)), (.sl (List.map c_Rect x0.Cuts)), (.sl (List.map c_Rect x0.Forms))])]⟩ (by kernel_rfl) ?_
   refine sem_cond (!r18) (by kernel_rfl) (by kernel_rfl) (fun hb => ?_) (fun hb => ?_)
   ·replace h := iteT hb h
    exact nomatch h
   ·replace h := iteF hb h
    refine z7 (by kernel_rfl) ?_
    refine evs_run 2 (by kernel_rfl) ?_
    refine evs_op (st_len (c := c_Rect) (l := x0.Rects) (x := (.sl (List.map c_Rect x0.Rects))) (by kernel_rfl) (by kernel_rfl)) ?_
    refine evs_run 2 (by kernel_rfl) ?_
    refine evs_split (decide ((x0.Rects.length : Int) > 12)) (fun b0 => ⟨[(1, (.ptr 1 0)), (34, (vB b0))], [(1, .box [(vS x0.Name), (vS x0.Material), (vI x0.Gauge), (vI x0.Grain), (.sl (List.map c_Rect x0.Rects)), (.sl (List.map c_Rect x0.Cuts)), (.sl (List.map c_Rect x0.Forms))])]⟩) (by kernel_rfl) (fun hb => ?_) (fun hb => ?_)
    ·replace h := iteT hb h
     exact nomatch h
    ·replace h := iteF hb h
     refine evs_run 2 (by kernel_rfl) ?_
     refine evs_op (st_len (c := c_Rect) (l := x0.Cuts) (x := (.sl (List.map c_Rect x0.Cuts))) (by kernel_rfl) (by kernel_rfl)) ?_
     refine evs_run 3 (by kernel_rfl) ?_
     refine evs_split (decide ((x0.Cuts.length : Int) > 12)) (fun b0 => ⟨[(1, (.ptr 1 0)), (40, (vB b0))], [(1, .box [(vS x0.Name), (vS x0.Material), (vI x0.Gauge), (vI x0.Grain), (.sl (List.map c_Rect x0.Rects)), (.sl (List.map c_Rect x0.Cuts)), (.sl (List.map c_Rect x0.Forms))])]⟩) (by kernel_rfl) (fun hb => ?_) (fun hb => ?_)
     ·replace h := iteT hb h
      exact nomatch h
     ·replace h := iteF hb h
      refine evs_run 2 (by kernel_rfl) ?_
      refine evs_op (st_len (c := c_Rect) (l := x0.Forms) (x := (.sl (List.map c_Rect x0.Forms))) (by kernel_rfl) (by kernel_rfl)) ?_
      refine z1 3 ⟨[(1, (.ptr 1 0)), (29, (vB (decide ((x0.Forms.length : Int) > 12))))], [(1, .box [(vS x0.Name), (vS x0.Material), (vI x0.Gauge), (vI x0.Grain), (.sl (List.map c_Rect x0.Rects)), (.sl (List.map c_Rect x0.Cuts)), (.sl (List.map c_Rect x0.Forms))])]⟩ (by kernel_rfl) ?_
      refine sem_cond (decide ((x0.Forms.length : Int) > 12)) (by kernel_rfl) (by kernel_rfl) (fun hb => ?_) (fun hb => ?_)
      ·replace h := iteT hb h
       exact nomatch h
      ·replace h := iteF hb h
       refine z7 (by kernel_rfl) ?_
       refine evs_run 2 (by kernel_rfl) ?_
       refine evs_op (st_len (c := c_Rect) (l := x0.Rects) (x := (.sl (List.map c_Rect x0.Rects))) (by kernel_rfl) (by kernel_rfl)) ?_
       refine evs_run 2 (by kernel_rfl) ?_
       refine evs_split ((x0.Rects.length : Int) == 0) (fun b0 => ⟨[(1, (.ptr 1 0)), (51, (vB b0))], [(1, .box [(vS x0.Name), (vS x0.Material), (vI x0.Gauge), (vI x0.Grain), (.sl (List.map c_Rect x0.Rects)), (.sl (List.map c_Rect x0.Cuts)), (.sl (List.map c_Rect x0.Forms))])]⟩) (by kernel_rfl) (fun hb => ?_) (fun hb => ?_)
       ·replace h := iteT hb h
        exact nomatch h
       ·replace h := iteF hb h
        refine evs_run 2 (by kernel_rfl) ?_
        obtain ⟨r22, hr22, h⟩ := bindS h
        refine evs_callP [] (by kernel_rfl) (W.nest_valid_k_ok hr22) (by kernel_rfl) (.inl rfl) (by kernel_rfl) ?_
        refine evs_run 3 (by kernel_rfl) ?_
        refine evs_split r22 (fun b0 => ⟨[(1, (.ptr 1 0)), (57, (vB (!b0)))], [(1, .box [(vS x0.Name), (vS x0.Material), (vI x0.Gauge), (vI x0.Grain), (.sl (List.map c_Rect x0.Rects)), (.sl (List.map c_Rect x0.Cuts)), (.sl (List.map c_Rect x0.Forms))])]⟩) (by kernel_rfl) (fun hb => ?_) (fun hb => ?_)
        ·replace h := iteT hb h
         refine evs_run 2 (by kernel_rfl) ?_
         obtain ⟨r23, hr23, h⟩ := bindS h
         refine evs_callP [] (by kernel_rfl) (W.nest_valid_k_ok hr23) (by kernel_rfl) (.inl rfl) (by kernel_rfl) ?_
         refine evs_run 3 (by kernel_rfl) ?_
         refine evs_split r23 (fun b0 => ⟨[(1, (.ptr 1 0)), (63, (vB (!b0)))], [(1, .box [(vS x0.Name), (vS x0.Material), (vI x0.Gauge), (vI x0.Grain), (.sl (List.map c_Rect x0.Rects)), (.sl (List.map c_Rect x0.Cuts)), (.sl (List.map c_Rect x0.Forms))])]⟩) (by kernel_rfl) (fun hb => ?_) (fun hb => ?_)
         ·replace h := iteT hb h
          refine evs_run 2 (by kernel_rfl) ?_
          obtain ⟨r24, hr24, h⟩ := bindS h
          refine evs_callP [] (by kernel_rfl) (W.nest_valid_k_ok hr24) (by kernel_rfl) (.inl rfl) (by kernel_rfl) ?_
          refine z1 3 ⟨[(1, (.ptr 1 0)), (46, (vB (!r24)))], [(1, .box [(vS x0.Name), (vS x0.Material), (vI x0.Gauge), (vI x0.Grain), (.sl (List.map c_Rect x0.Rects)), (.sl (List.map c_Rect x0.Cuts)), (.sl (List.map c_Rect x0.Forms))])]⟩ (by kernel_rfl) ?_
          refine sem_cond (!r24) (by kernel_rfl) (by kernel_rfl) (fun hb => ?_) (fun hb => ?_)
          ·replace h := iteT hb h
           exact nomatch h
          ·replace h := iteF hb h
           refine sem_skipS (by kernel_rfl) (fun τ hτ => ?_)
           refine bl_normal ?_
           refine th_normalS hτ ⟨[(1, (.ptr 1 0))], [(1, .box [(vS x0.Name), (vS x0.Material), (vI x0.Gauge), (vI x0.Grain), (.sl (List.map c_Rect x0.Rects)), (.sl (List.map c_Rect x0.Cuts)), (.sl (List.map c_Rect x0.Forms))])]⟩ (here (by kernel_rfl)) ?_
           refine sem_seq (by kernel_rfl) ?_
           refine sem_drawN [] [] [] [] [] 11 (by kernel_rfl) (by kernel_rfl) (by kernel_rfl) ?_
           refine evd_run 2 (by kernel_rfl) ?_
           obtain ⟨x29, hx29, h⟩ := bindS h
           refine evd_val (by kernel_rfl) (st_idx (c := c_Rect) (l := x0.Rects) (i := 0) (kd := .i64) (sz := 4) (by kernel_rfl) hx29 rfl) (by kernel_rfl) (by kernel_rfl) ?_
           refine evd_run 4 (by kernel_rfl) ?_
           obtain ⟨x30, hx30, h⟩ := bindS h
           refine evd_val (by kernel_rfl) (st_idx (c := c_Rect) (l := x0.Rects) (i := 0) (kd := .i64) (sz := 4) (by kernel_rfl) hx30 rfl) (by kernel_rfl) (by kernel_rfl) ?_
           refine evd_run 3 (by kernel_rfl) ?_
           refine evd_end (by kernel_rfl) ?_
           refine evo_run 1 (by kernel_rfl) ?_
           refine evo_endS (by kernel_rfl) (fun τ hτ => ?_)
           refine th_normalS hτ ⟨[(1, (.ptr 1 0)), (3, (vI x29.X)), (4, (vI x30.Y))], [(1, .box [(vS x0.Name), (vS x0.Material), (vI x0.Gauge), (vI x0.Grain), (.sl (List.map c_Rect x0.Rects)), (.sl (List.map c_Rect x0.Cuts)), (.sl (List.map c_Rect x0.Forms))])]⟩ (here (by kernel_rfl)) ?_
           refine sem_seq (by kernel_rfl) ?_
           refine z7 (by kernel_rfl) ?_
           refine evs_run 2 (by kernel_rfl) ?_
           refine evs_op (st_len (c := c_Rect) (l := x0.Rects) (x := (.sl (List.map c_Rect x0.Rects))) (by kernel_rfl) (by kernel_rfl)) ?_
           refine z1 1 ⟨[(1, (.ptr 1 0)), (3, (vI x29.X)), (4, (vI x30.Y)), (80, (.sl (List.map c_Rect x0.Rects))), (81, (vI (x0.Rects.length : Int))), (82, (vI 0))], [(1, .box [(vS x0.Name), (vS x0.Material), (vI x0.Gauge), (vI x0.Grain), (.sl (List.map c_Rect x0.Rects)), (.sl (List.map c_Rect x0.Cuts)), (.sl (List.map c_Rect x0.Forms))])]⟩ (by kernel_rfl) ?_
           refine sem_block (by kernel_rfl) ?_
           obtain ⟨x60, hx60, h⟩ := bindS h
           refine sem_loopS (fun (s51 : Int × Int × Int) => ⟨[(1, (.ptr 500000 0)), (3, (vI s51.1)), (4, (vI s51.2.1)), (80, (.sl (List.map c_Rect x0.Rects))), (81, (vI (x0.Rects.length : Int))), (82, (vI s51.2.2))], [(500000, .box [(vS x0.Name), (vS x0.Material), (vI x0.Gauge), (vI x0.Grain), (.sl (List.map c_Rect x0.Rects)), (.sl (List.map c_Rect x0.Cuts)), (.sl (List.map c_Rect x0.Forms))])]⟩) (fun (x60 : Int × Int) => (.exit 1, ⟨[(1, (.ptr 500000 0)), (3, (vI x60.1)), (4, (vI x60.2))], [(500000, .box [(vS x0.Name), (vS x0.Material), (vI x0.Gauge), (vI x0.Grain), (.sl (List.map c_Rect x0.Rects)), (.sl (List.map c_Rect x0.Cuts)), (.sl (List.map c_Rect x0.Forms))])]⟩)) (nest_ValidatePiece_k_l1 x0) (x29.X, x30.Y, 0) x60 (by kernel_rfl) (subR_prep [] [(1, 500000)] (by kernel_rfl) rfl rfl (by kernel_rfl)) (iter_loop hx60) ?_ ?_ ?_
           ·intro s51 r h
            refine z3 1 ⟨[(1, (.ptr 500000 0)), (3, (vI s51.1)), (4, (vI s51.2.1)), (80, (.sl (List.map c_Rect x0.Rects))), (81, (vI (x0.Rects.length : Int))), (82, (vI s51.2.2)), (83, (vB (decide (s51.2.2 < (x0.Rects.length : Int)))))], [(500000, .box [(vS x0.Name), (vS x0.Material), (vI x0.Gauge), (vI x0.Grain), (.sl (List.map c_Rect x0.Rects)), (.sl (List.map c_Rect x0.Cuts)), (.sl (List.map c_Rect x0.Forms))])]⟩ (by kernel_rfl) ?_
            refine sem_seq (by kernel_rfl) ?_
            refine sem_cond (decide (s51.2.2 < (x0.Rects.length : Int))) (by kernel_rfl) (by kernel_rfl) (fun hb => ?_) (fun hb => ?_)
            ·replace h := iteT hb h
             refine z4 ⟨[(1, (.ptr 500000 0)), (3, (vI s51.1)), (4, (vI s51.2.1)), (80, (.sl (List.map c_Rect x0.Rects))), (81, (vI (x0.Rects.length : Int))), (82, (vI s51.2.2))], [(500000, .box [(vS x0.Name), (vS x0.Material), (vI x0.Gauge), (vI x0.Grain), (.sl (List.map c_Rect x0.Rects)), (.sl (List.map c_Rect x0.Cuts)), (.sl (List.map c_Rect x0.Forms))])]⟩ (by kernel_rfl) ?_
             refine sem_seq (by kernel_rfl) ?_
             refine sem_block (by kernel_rfl) ?_
             refine z7 (by kernel_rfl) ?_
             obtain ⟨x59, hx59, h⟩ := bindS h
             refine evs_op (st_idx (c := c_Rect) (l := x0.Rects) (i := s51.2.2) (kd := .i64) (sz := 4) (by kernel_rfl) hx59 rfl) ?_
             refine z1 3 ⟨[(1, (.ptr 500000 0)), (3, (vI s51.1)), (4, (vI s51.2.1)), (6, (.ptr 6 0)), (80, (.sl (List.map c_Rect x0.Rects))), (81, (vI (x0.Rects.length : Int))), (82, (vI s51.2.2))], [(6, .box [(vI x59.X), (vI x59.Y), (vI x59.W), (vI x59.H)]), (500000, .box [(vS x0.Name), (vS x0.Material), (vI x0.Gauge), (vI x0.Grain), (.sl (List.map c_Rect x0.Rects)), (.sl (List.map c_Rect x0.Cuts)), (.sl (List.map c_Rect x0.Forms))])]⟩ (by kernel_rfl) ?_
             refine sem_drawN [] [] [] [] [] 9 (by kernel_rfl) (by kernel_rfl) (by kernel_rfl) ?_
             refine evd_run 9 (by kernel_rfl) ?_
             refine evd_end (by kernel_rfl) ?_
             refine evo_run 1 (by kernel_rfl) ?_
             refine evo_endS (by kernel_rfl) (fun τ hτ => ?_)
             refine bl_normal ?_
             refine th_normalS hτ ⟨[(1, (.ptr 500000 0)), (3, (vI (imin s51.1 x59.X))), (4, (vI (imin s51.2.1 x59.Y))), (80, (.sl (List.map c_Rect x0.Rects))), (81, (vI (x0.Rects.length : Int))), (82, (vI s51.2.2))], [(500000, .box [(vS x0.Name), (vS x0.Material), (vI x0.Gauge), (vI x0.Grain), (.sl (List.map c_Rect x0.Rects)), (.sl (List.map c_Rect x0.Cuts)), (.sl (List.map c_Rect x0.Forms))])]⟩ (here (by kernel_rfl)) ?_
             refine sem_region (by kernel_rfl) ?_
             refine z6 2 (by kernel_rfl) (fun τ hτ => ?_)
             obtain rfl := Option.some.inj h
             exact lk_nextS hτ (here (by kernel_rfl))
            ·replace h := iteF hb h
             refine sem_exitS 1 (by kernel_rfl) rfl (fun τ hτ => ?_)
             refine th_exit ?_
             obtain rfl := Option.some.inj h
             exact lk_outS hτ rfl (here (by kernel_rfl))
           ·intro x
            rfl
           ·intro τ hτ
            refine bl_hit (by kernel_rfl) ?_
            refine th_normalS hτ ⟨[(1, (.ptr 500000 0)), (3, (vI x60.1)), (4, (vI x60.2))], [(500000, .box [(vS x0.Name), (vS x0.Material), (vI x0.Gauge), (vI x0.Grain), (.sl (List.map c_Rect x0.Rects)), (.sl (List.map c_Rect x0.Cuts)), (.sl (List.map c_Rect x0.Forms))])]⟩ (here (by kernel_rfl)) ?_
            refine sem_seq (by kernel_rfl) ?_
            refine z7 (by kernel_rfl) ?_
            refine evs_run 3 (by kernel_rfl) ?_
            refine evs_split (x60.1 != 0) (fun b0 => ⟨[(1, (.ptr 500000 0)), (4, (vI x60.2)), (97, (vB b0))], [(500000, .box [(vS x0.Name), (vS x0.Material), (vI x0.Gauge), (vI x0.Grain), (.sl (List.map c_Rect x0.Rects)), (.sl (List.map c_Rect x0.Cuts)), (.sl (List.map c_Rect x0.Forms))])]⟩) (by kernel_rfl) (fun hb => ?_) (fun hb => ?_)
            ·replace h := iteT hb h
             exact nomatch h
            ·replace h := iteF hb h
             refine z1 3 ⟨[(1, (.ptr 500000 0)), (100, (vB (x60.2 != 0)))], [(500000, .box [(vS x0.Name), (vS x0.Material), (vI x0.Gauge), (vI x0.Grain), (.sl (List.map c_Rect x0.Rects)), (.sl (List.map c_Rect x0.Cuts)), (.sl (List.map c_Rect x0.Forms))])]⟩ (by kernel_rfl) ?_
             refine sem_cond (x60.2 != 0) (by kernel_rfl) (by kernel_rfl) (fun hb => ?_) (fun hb => ?_)
             ·replace h := iteT hb h
              exact nomatch h
             ·replace h := iteF hb h
              refine z4 ⟨[(1, (.ptr 500000 0))], [(500000, .box [(vS x0.Name), (vS x0.Material), (vI x0.Gauge), (vI x0.Grain), (.sl (List.map c_Rect x0.Rects)), (.sl (List.map c_Rect x0.Cuts)), (.sl (List.map c_Rect x0.Forms))])]⟩ (by kernel_rfl) ?_
              refine sem_seq (by kernel_rfl) ?_
              refine z7 (by kernel_rfl) ?_
              refine evs_run 2 (by kernel_rfl) ?_
              refine evs_op (st_len (c := c_Rect) (l := x0.Rects) (x := (.sl (List.map c_Rect x0.Rects))) (by kernel_rfl) (by kernel_rfl)) ?_
              refine z1 1 ⟨[(1, (.ptr 500000 0)), (102, (.sl (List.map c_Rect x0.Rects))), (103, (vI (x0.Rects.length : Int))), (104, (vI 0))], [(500000, .box [(vS x0.Name), (vS x0.Material), (vI x0.Gauge), (vI x0.Grain), (.sl (List.map c_Rect x0.Rects)), (.sl (List.map c_Rect x0.Cuts)), (.sl (List.map c_Rect x0.Forms))])]⟩ (by kernel_rfl) ?_
              refine sem_block (by kernel_rfl) ?_
              obtain ⟨x138, hx138, h⟩ := bindS h
              refine sem_loopS (fun (s113 : Int) => ⟨[(1, (.ptr 500000 0)), (102, (.sl (List.map c_Rect x0.Rects))), (103, (vI (x0.Rects.length : Int))), (104, (vI s113))], [(500000, .box [(vS x0.Name), (vS x0.Material), (vI x0.Gauge), (vI x0.Grain), (.sl (List.map c_Rect x0.Rects)), (.sl (List.map c_Rect x0.Cuts)), (.sl (List.map c_Rect x0.Forms))])]⟩) (fun (x138 : Unit) => (.exit 3, ⟨[(1, (.ptr 500000 0))], [(500000, .box [(vS x0.Name), (vS x0.Material), (vI x0.Gauge), (vI x0.Grain), (.sl (List.map c_Rect x0.Rects)), (.sl (List.map c_Rect x0.Cuts)), (.sl (List.map c_Rect x0.Forms))])]⟩)) (nest_ValidatePiece_k_l3 x0) 0 x138 (by kernel_rfl) (here (by kernel_rfl)) (iter_loop hx138) ?_ ?_ ?_
              ·intro s113 r h
               refine z3 1 ⟨[(1, (.ptr 500000 0)), (102, (.sl (List.map c_Rect x0.Rects))), (103, (vI (x0.Rects.length : Int))), (104, (vI s113)), (105, (vB (decide (s113 < (x0.Rects.length : Int)))))], [(500000, .box [(vS x0.Name), (vS x0.Material), (vI x0.Gauge), (vI x0.Grain), (.sl (List.map c_Rect x0.Rects)), (.sl (List.map c_Rect x0.Cuts)), (.sl (List.map c_Rect x0.Forms))])]⟩ (by kernel_rfl) ?_
               refine sem_seq (by kernel_rfl) ?_
               refine sem_cond (decide (s113 < (x0.Rects.length : Int))) (by kernel_rfl) (by kernel_rfl) (fun hb => ?_) (fun hb => ?_)
               ·replace h := iteT hb h
                refine z4 ⟨[(1, (.ptr 500000 0)), (102, (.sl (List.map c_Rect x0.Rects))), (103, (vI (x0.Rects.length : Int))), (104, (vI s113))], [(500000, .box [(vS x0.Name), (vS x0.Material), (vI x0.Gauge), (vI x0.Grain), (.sl (List.map c_Rect x0.Rects)), (.sl (List.map c_Rect x0.Cuts)), (.sl (List.map c_Rect x0.Forms))])]⟩ (by kernel_rfl) ?_
                refine sem_seq (by kernel_rfl) ?_
                refine sem_block (by kernel_rfl) ?_
                refine z7 (by kernel_rfl) ?_
                refine evs_run 1 (by kernel_rfl) ?_
                obtain ⟨x133, hx133, h⟩ := bindS h
                refine evs_op (st_idx (c := c_Rect) (l := x0.Rects) (i := s113) (kd := .i64) (sz := 4) (by kernel_rfl) hx133 rfl) ?_
                refine z1 4 ⟨[(1, (.ptr 500000 0)), (7, (vI s113)), (8, (.ptr 8 0)), (102, (.sl (List.map c_Rect x0.Rects))), (103, (vI (x0.Rects.length : Int))), (104, (vI s113))], [(8, .box [(vI x133.X), (vI x133.Y), (vI x133.W), (vI x133.H)]), (500000, .box [(vS x0.Name), (vS x0.Material), (vI x0.Gauge), (vI x0.Grain), (.sl (List.map c_Rect x0.Rects)), (.sl (List.map c_Rect x0.Cuts)), (.sl (List.map c_Rect x0.Forms))])]⟩ (by kernel_rfl) ?_
                refine z7 (by kernel_rfl) ?_
                refine evs_run 3 (by kernel_rfl) ?_
                obtain ⟨l135, hl135, h⟩ := bindS h
                refine evs_op (st_slH (c := c_Rect) (l := x0.Rects) (sz := 4) (hi := s113) (k2 := .i64) (by kernel_rfl) hl135) ?_
                refine evs_op (st_len (c := c_Rect) (l := l135) (x := (.sl (List.map c_Rect l135))) (by kernel_rfl) (by kernel_rfl)) ?_
                refine z1 1 ⟨[(1, (.ptr 500000 0)), (8, (.ptr 8 0)), (102, (.sl (List.map c_Rect x0.Rects))), (103, (vI (x0.Rects.length : Int))), (104, (vI s113)), (112, (.sl (List.map c_Rect l135))), (113, (vI (l135.length : Int))), (114, (vI 0))], [(8, .box [(vI x133.X), (vI x133.Y), (vI x133.W), (vI x133.H)]), (500000, .box [(vS x0.Name), (vS x0.Material), (vI x0.Gauge), (vI x0.Grain), (.sl (List.map c_Rect x0.Rects)), (.sl (List.map c_Rect x0.Cuts)), (.sl (List.map c_Rect x0.Forms))])]⟩ (by kernel_rfl) ?_
                refine sem_block (by kernel_rfl) ?_
                obtain ⟨x137, hx137, h⟩ := bindS h
                refine sem_loopS (fun (s136 : Unit) => ⟨[(1, (.ptr 500000 0)), (8, (.ptr 500001 0)), (102, (.sl (List.map c_Rect x0.Rects))), (103, (vI (x0.Rects.length : Int))), (104, (vI s113)), (112, (.sl (List.map c_Rect l135))), (113, (vI (l135.length : Int))), (114, (vI 0))], [(500000, .box [(vS x0.Name), (vS x0.Material), (vI x0.Gauge), (vI x0.Grain), (.sl (List.map c_Rect x0.Rects)), (.sl (List.map c_Rect x0.Cuts)), (.sl (List.map c_Rect x0.Forms))]), (500001, .box [(vI x133.X), (vI x133.Y), (vI x133.W), (vI x133.H)])]⟩) (fun (x137 : Unit) => (.exit 5, ⟨[(1, (.ptr 500000 0)), (102, (.sl (List.map c_Rect x0.Rects))), (103, (vI (x0.Rects.length : Int))), (104, (vI s113))], [(500000, .box [(vS x0.Name), (vS x0.Material), (vI x0.Gauge), (vI x0.Grain), (.sl (List.map c_Rect x0.Rects)), (.sl (List.map c_Rect x0.Cuts)), (.sl (List.map c_Rect x0.Forms))])]⟩)) (nest_ValidatePiece_k_l2 l135) () x137 (by kernel_rfl) (subR_prep [] [(8, 500001), (500000, 500000)] (by kernel_rfl) rfl rfl (by kernel_rfl)) (iter_loop hx137) ?_ ?_ ?_
                ·intro s136 r h
                 refine z3 1 ⟨[(1, (.ptr 500000 0)), (8, (.ptr 500001 0)), (102, (.sl (List.map c_Rect x0.Rects))), (103, (vI (x0.Rects.length : Int))), (104, (vI s113)), (112, (.sl (List.map c_Rect l135))), (113, (vI (l135.length : Int))), (114, (vI 0)), (115, (vB (decide (0 < (l135.length : Int)))))], [(500000, .box [(vS x0.Name), (vS x0.Material), (vI x0.Gauge), (vI x0.Grain), (.sl (List.map c_Rect x0.Rects)), (.sl (List.map c_Rect x0.Cuts)), (.sl (List.map c_Rect x0.Forms))]), (500001, .box [(vI x133.X), (vI x133.Y), (vI x133.W), (vI x133.H)])]⟩ (by kernel_rfl) ?_
                 refine sem_seq (by kernel_rfl) ?_
                 refine sem_cond (decide (0 < (l135.length : Int))) (by kernel_rfl) (by kernel_rfl) (fun hb => ?_) (fun hb => ?_)
                 ·replace h := iteT hb h
                  exact nomatch h
                 ·replace h := iteF hb h
                  refine sem_exitS 5 (by kernel_rfl) rfl (fun τ hτ => ?_)
                  refine th_exit ?_
                  obtain rfl := Option.some.inj h
                  exact lk_outS hτ rfl (here (by kernel_rfl))
                ·intro x
                 rfl
                ·intro τ hτ
                 refine bl_hit (by kernel_rfl) ?_
                 refine bl_normal ?_
                 refine th_normalS hτ ⟨[(1, (.ptr 500000 0)), (102, (.sl (List.map c_Rect x0.Rects))), (103, (vI (x0.Rects.length : Int))), (104, (vI s113))], [(500000, .box [(vS x0.Name), (vS x0.Material), (vI x0.Gauge), (vI x0.Grain), (.sl (List.map c_Rect x0.Rects)), (.sl (List.map c_Rect x0.Cuts)), (.sl (List.map c_Rect x0.Forms))])]⟩ (here (by kernel_rfl)) ?_
                 refine sem_region (by kernel_rfl) ?_
                 refine z6 2 (by kernel_rfl) (fun τ hτ => ?_)
                 obtain rfl := Option.some.inj h
                 exact lk_nextS hτ (here (by kernel_rfl))
               ·replace h := iteF hb h
                refine sem_exitS 3 (by kernel_rfl) rfl (fun τ hτ => ?_)
                refine th_exit ?_
                obtain rfl := Option.some.inj h
                exact lk_outS hτ rfl (here (by kernel_rfl))
              ·intro x
               rfl
              ·intro τ hτ
               refine bl_hit (by kernel_rfl) ?_
               refine th_normalS hτ ⟨[(1, (.ptr 500000 0))], [(500000, .box [(vS x0.Name), (vS x0.Material), (vI x0.Gauge), (vI x0.Grain), (.sl (List.map c_Rect x0.Rects)), (.sl (List.map c_Rect x0.Cuts)), (.sl (List.map c_Rect x0.Forms))])]⟩ (here (by kernel_rfl)) ?_
               refine sem_seq (by kernel_rfl) ?_
               refine z7 (by kernel_rfl) ?_
               refine evs_run 2 (by kernel_rfl) ?_
               obtain ⟨r142, hr142, h⟩ := bindS h
               refine evs_callP [] (by kernel_rfl) (W.nest_connected_k_ok hr142) (by kernel_rfl) (.inl rfl) (by kernel_rfl) ?_
               refine z1 1 ⟨[(1, (.ptr 500000 0)), (126, (vB (!r142)))], [(500000, .box [(vS x0.Name), (vS x0.Material), (vI x0.Gauge), (vI x0.Grain), (.sl (List.map c_Rect x0.Rects)), (.sl (List.map c_Rect x0.Cuts)), (.sl (List.map c_Rect x0.Forms))])]⟩ (by kernel_rfl) ?_
               refine sem_cond (!r142) (by kernel_rfl) (by kernel_rfl) (fun hb => ?_) (fun hb => ?_)
               ·replace h := iteT hb h
                exact nomatch h
               ·replace h := iteF hb h
                refine z4 ⟨[(1, (.ptr 500000 0))], [(500000, .box [(vS x0.Name), (vS x0.Material), (vI x0.Gauge), (vI x0.Grain), (.sl (List.map c_Rect x0.Rects)), (.sl (List.map c_Rect x0.Cuts)), (.sl (List.map c_Rect x0.Forms))])]⟩ (by kernel_rfl) ?_
                refine z7 (by kernel_rfl) ?_
                refine evs_run 1 (by kernel_rfl) ?_
                obtain ⟨r144, hr144, h⟩ := bindS h
                refine evs_callP [] (by kernel_rfl) (W.nest_inside_k_ok hr144) (by kernel_rfl) (.inl rfl) (by kernel_rfl) ?_
                refine z1 1 ⟨[(2, (vI r144))], []⟩ (by kernel_rfl) ?_
                refine sem_retS (by kernel_rfl) (fun τ hτ => ?_)
                obtain rfl := Option.some.inj h
                exact rk_ret hτ [(2, (vI r144))] (here (by kernel_rfl)) (by kernel_rfl)
         ·replace h := iteF hb h
          exact nomatch h
        ·replace h := iteF hb h
         exact nomatch h
 ·replace h := iteF hb h
  exact nomatch h
theorem W.cut_pieceError_k_ok {x0 : Piece} {r : Int} (h : cut_pieceError_k x0 = some r) : PC G.P 49 [(.agg [(vS x0.Name), (vS x0.Material), (vI x0.Gauge), (vI x0.Grain), (.sl (List.map c_Rect x0.Rects)), (.sl (List.map c_Rect x0.Cuts)), (.sl (List.map c_Rect x0.Forms))])] [] (vI r) [] := by
 refine pc_of G (fn := Try.f49) Try.func49 (by kernel_rfl) (by kernel_rfl) (by kernel_rfl) (by kernel_rfl) (by kernel_rfl) ?_
 refine sem_set ⟨[(0, (.agg [(vS x0.Name), (vS x0.Material), (vI x0.Gauge), (vI x0.Grain), (.sl (List.map c_Rect x0.Rects)), (.sl (List.map c_Rect x0.Cuts)), (.sl (List.map c_Rect x0.Forms))]))], []⟩ (by kernel_rfl) ?_
 refine z3 2 ⟨[(1, (.ptr 1 0))], [(1, .box [(vS x0.Name), (vS x0.Material), (vI x0.Gauge), (vI x0.Grain), (.sl (List.map c_Rect x0.Rects)), (.sl (List.map c_Rect x0.Cuts)), (.sl (List.map c_Rect x0.Forms))])]⟩ (by kernel_rfl) ?_
 refine sem_seq (by kernel_rfl) ?_
 refine z7 (by kernel_rfl) ?_
 refine evs_run 2 (by kernel_rfl) ?_
 refine evs_op (st_len (c := c_Rect) (l := x0.Rects) (x := (.sl (List.map c_Rect x0.Rects))) (by kernel_rfl) (by kernel_rfl)) ?_
 refine z1 1 ⟨[(1, (.ptr 1 0)), (10, (.sl (List.map c_Rect x0.Rects))), (11, (vI (x0.Rects.length : Int))), (12, (vI 0))], [(1, .box [(vS x0.Name), (vS x0.Material), (vI x0.Gauge), (vI x0.Grain), (.sl (List.map c_Rect x0.Rects)), (.sl (List.map c_Rect x0.Cuts)), (.sl (List.map c_Rect x0.Forms))])]⟩ (by kernel_rfl) ?_
 refine sem_block (by kernel_rfl) ?_
 obtain ⟨x54, hx54, h⟩ := bindS h
 refine sem_loopS (fun (s37 : Int) => ⟨[(1, (.ptr 500000 0)), (10, (.sl (List.map c_Rect x0.Rects))), (11, (vI (x0.Rects.length : Int))), (12, (vI s37))], [(500000, .box [(vS x0.Name), (vS x0.Material), (vI x0.Gauge), (vI x0.Grain), (.sl (List.map c_Rect x0.Rects)), (.sl (List.map c_Rect x0.Cuts)), (.sl (List.map c_Rect x0.Forms))])]⟩) (fun (x54 : Unit) => (.exit 0, ⟨[(1, (.ptr 500000 0))], [(500000, .box [(vS x0.Name), (vS x0.Material), (vI x0.Gauge), (vI x0.Grain), (.sl (List.map c_Rect x0.Rects)), (.sl (List.map c_Rect x0.Cuts)), (.sl (List.map c_Rect x0.Forms))])]⟩)) (cut_pieceError_k_l1 x0) 0 x54 (by kernel_rfl) (subR_prep [] [(1, 500000)] (by kernel_rfl) rfl rfl (by kernel_rfl)) (iter_loop hx54) ?_ ?_ ?_
 ·intro s37 r h
  refine z3 1 ⟨[(1, (.ptr 500000 0)), (10, (.sl (List.map c_Rect x0.Rects))), (11, (vI (x0.Rects.length : Int))), (12, (vI s37)), (13, (vB (decide (s37 < (x0.Rects.length : Int)))))], [(500000, .box [(vS x0.Name), (vS x0.Material), (vI x0.Gauge), (vI x0.Grain), (.sl (List.map c_Rect x0.Rects)), (.sl (List.map c_Rect x0.Cuts)), (.sl (List.map c_Rect x0.Forms))])]⟩ (by kernel_rfl) ?_
  refine sem_seq (by kernel_rfl) ?_
  refine sem_cond (decide (s37 < (x0.Rects.length : Int))) (by kernel_rfl) (by kernel_rfl) (fun hb => ?_) (fun hb => ?_)
  ·replace h := iteT hb h
   refine z4 ⟨[(1, (.ptr 500000 0)), (10, (.sl (List.map c_Rect x0.Rects))), (11, (vI (x0.Rects.length : Int))), (12, (vI s37))], [(500000, .box [(vS x0.Name), (vS x0.Material), (vI x0.Gauge), (vI x0.Grain), (.sl (List.map c_Rect x0.Rects)), (.sl (List.map c_Rect x0.Cuts)), (.sl (List.map c_Rect x0.Forms))])]⟩ (by kernel_rfl) ?_
   refine sem_seq (by kernel_rfl) ?_
   refine sem_block (by kernel_rfl) ?_
   refine z7 (by kernel_rfl) ?_
   obtain ⟨x51, hx51, h⟩ := bindS h
   refine evs_op (st_idx (c := c_Rect) (l := x0.Rects) (i := s37) (kd := .i64) (sz := 4) (by kernel_rfl) hx51 rfl) ?_
   refine z1 3 ⟨[(1, (.ptr 500000 0)), (4, (.ptr 4 0)), (10, (.sl (List.map c_Rect x0.Rects))), (11, (vI (x0.Rects.length : Int))), (12, (vI s37))], [(4, .box [(vI x51.X), (vI x51.Y), (vI x51.W), (vI x51.H)]), (500000, .box [(vS x0.Name), (vS x0.Material), (vI x0.Gauge), (vI x0.Grain), (.sl (List.map c_Rect x0.Rects)), (.sl (List.map c_Rect x0.Cuts)), (.sl (List.map c_Rect x0.Forms))])]⟩ (by kernel_rfl) ?_
   refine z7 (by kernel_rfl) ?_
   refine evs_run 1 (by kernel_rfl) ?_
   obtain ⟨r53, hr53, h⟩ := bindS h
   refine evs_callP [] (by kernel_rfl) (W.geom_ValidRect_k_ok hr53) (by kernel_rfl) (.inl rfl) (by kernel_rfl) ?_
   refine z1 1 ⟨[(1, (.ptr 500000 0)), (10, (.sl (List.map c_Rect x0.Rects))), (11, (vI (x0.Rects.length : Int))), (12, (vI s37)), (18, (vB (!r53)))], [(500000, .box [(vS x0.Name), (vS x0.Material), (vI x0.Gauge), (vI x0.Grain), (.sl (List.map c_Rect x0.Rects)), (.sl (List.map c_Rect x0.Cuts)), (.sl (List.map c_Rect x0.Forms))])]⟩ (by kernel_rfl) ?_
   refine sem_cond (!r53) (by kernel_rfl) (by kernel_rfl) (fun hb => ?_) (fun hb => ?_)
   ·replace h := iteT hb h
    exact nomatch h
   ·replace h := iteF hb h
    refine sem_skipS (by kernel_rfl) (fun τ hτ => ?_)
    refine bl_normal ?_
    refine th_normalS hτ ⟨[(1, (.ptr 500000 0)), (10, (.sl (List.map c_Rect x0.Rects))), (11, (vI (x0.Rects.length : Int))), (12, (vI s37))], [(500000, .box [(vS x0.Name), (vS x0.Material), (vI x0.Gauge), (vI x0.Grain), (.sl (List.map c_Rect x0.Rects)), (.sl (List.map c_Rect x0.Cuts)), (.sl (List.map c_Rect x0.Forms))])]⟩ (here (by kernel_rfl)) ?_
    refine sem_region (by kernel_rfl) ?_
    refine z6 2 (by kernel_rfl) (fun τ hτ => ?_)
    obtain rfl := Option.some.inj h
    exact lk_nextS hτ (here (by kernel_rfl))
  ·replace h := iteF hb h
   refine sem_exitS 0 (by kernel_rfl) rfl (fun τ hτ => ?_)
   refine th_exit ?_
   obtain rfl := Option.some.inj h
   exact lk_outS hτ rfl (here (by kernel_rfl))
 ·intro x
  rfl
 ·intro τ hτ
  refine bl_hit (by kernel_rfl) ?_
  refine th_normalS hτ ⟨[(1, (.ptr 500000 0))], [(500000, .box [(vS x0.Name), (vS x0.Material), (vI x0.Gauge), (vI x0.Grain), (.sl (List.map c_Rect x0.Rects)), (.sl (List.map c_Rect x0.Cuts)), (.sl (List.map c_Rect x0.Forms))])]⟩ (here (by kernel_rfl)) ?_
  refine sem_seq (by kernel_rfl) ?_
  refine z7 (by kernel_rfl) ?_
  refine evs_run 2 (by kernel_rfl) ?_
  refine evs_op (st_len (c := c_Rect) (l := x0.Rects) (x := (.sl (List.map c_Rect x0.Rects))) (by kernel_rfl) (by kernel_rfl)) ?_
  refine z1 1 ⟨[(1, (.ptr 500000 0)), (23, (vB ((x0.Rects.length : Int) == 0)))], [(500000, .box [(vS x0.Name), (vS x0.Material), (vI x0.Gauge), (vI x0.Grain), (.sl (List.map c_Rect x0.Rects)), (.sl (List.map c_Rect x0.Cuts)), (.sl (List.map c_Rect x0.Forms))])]⟩ (by kernel_rfl) ?_
  refine sem_cond ((x0.Rects.length : Int) == 0) (by kernel_rfl) (by kernel_rfl) (fun hb => ?_) (fun hb => ?_)
  ·replace h := iteT hb h
   exact nomatch h
  ·replace h := iteF hb h
   refine z4 ⟨[(1, (.ptr 500000 0))], [(500000, .box [(vS x0.Name), (vS x0.Material), (vI x0.Gauge), (vI x0.Grain), (.sl (List.map c_Rect x0.Rects)), (.sl (List.map c_Rect x0.Cuts)), (.sl (List.map c_Rect x0.Forms))])]⟩ (by kernel_rfl) ?_
   refine sem_seq (by kernel_rfl) ?_
   refine sem_drawN [] [] [] [] [] 11 (by kernel_rfl) (by kernel_rfl) (by kernel_rfl) ?_
   refine evd_run 2 (by kernel_rfl) ?_
   obtain ⟨x59, hx59, h⟩ := bindS h
   refine evd_val (by kernel_rfl) (st_idx (c := c_Rect) (l := x0.Rects) (i := 0) (kd := .i64) (sz := 4) (by kernel_rfl) hx59 rfl) (by kernel_rfl) (by kernel_rfl) ?_
   refine evd_run 4 (by kernel_rfl) ?_
   obtain ⟨x60, hx60, h⟩ := bindS h
   refine evd_val (by kernel_rfl) (st_idx (c := c_Rect) (l := x0.Rects) (i := 0) (kd := .i64) (sz := 4) (by kernel_rfl) hx60 rfl) (by kernel_rfl) (by kernel_rfl) ?_
   refine evd_run 3 (by kernel_rfl) ?_
   refine evd_end (by kernel_rfl) ?_
   refine evo_run 1 (by kernel_rfl) ?_
   refine evo_endS (by kernel_rfl) (fun τ hτ => ?_)
   refine th_normalS hτ ⟨[(1, (.ptr 500000 0)), (5, (vI x59.X)), (6, (vI x60.Y))], [(500000, .box [(vS x0.Name), (vS x0.Material), (vI x0.Gauge), (vI x0.Grain), (.sl (List.map c_Rect x0.Rects)), (.sl (List.map c_Rect x0.Cuts)), (.sl (List.map c_Rect x0.Forms))])]⟩ (here (by kernel_rfl)) ?_
   refine sem_seq (by kernel_rfl) ?_
   refine z7 (by kernel_rfl) ?_
   refine evs_run 2 (by kernel_rfl) ?_
   refine evs_op (st_len (c := c_Rect) (l := x0.Rects) (x := (.sl (List.map c_Rect x0.Rects))) (by kernel_rfl) (by kernel_rfl)) ?_
   refine z1 1 ⟨[(1, (.ptr 500000 0)), (5, (vI x59.X)), (6, (vI x60.Y)), (37, (.sl (List.map c_Rect x0.Rects))), (38, (vI (x0.Rects.length : Int))), (39, (vI 0))], [(500000, .box [(vS x0.Name), (vS x0.Material), (vI x0.Gauge), (vI x0.Grain), (.sl (List.map c_Rect x0.Rects)), (.sl (List.map c_Rect x0.Cuts)), (.sl (List.map c_Rect x0.Forms))])]⟩ (by kernel_rfl) ?_
   refine sem_block (by kernel_rfl) ?_
   obtain ⟨x90, hx90, h⟩ := bindS h
   refine sem_loopS (fun (s81 : Int × Int × Int) => ⟨[(1, (.ptr 500000 0)), (5, (vI s81.1)), (6, (vI s81.2.1)), (37, (.sl (List.map c_Rect x0.Rects))), (38, (vI (x0.Rects.length : Int))), (39, (vI s81.2.2))], [(500000, .box [(vS x0.Name), (vS x0.Material), (vI x0.Gauge), (vI x0.Grain), (.sl (List.map c_Rect x0.Rects)), (.sl (List.map c_Rect x0.Cuts)), (.sl (List.map c_Rect x0.Forms))])]⟩) (fun (x90 : Int × Int) => (.exit 2, ⟨[(1, (.ptr 500000 0)), (5, (vI x90.1)), (6, (vI x90.2))], [(500000, .box [(vS x0.Name), (vS x0.Material), (vI x0.Gauge), (vI x0.Grain), (.sl (List.map c_Rect x0.Rects)), (.sl (List.map c_Rect x0.Cuts)), (.sl (List.map c_Rect x0.Forms))])]⟩)) (cut_pieceError_k_l2 x0) (x59.X, x60.Y, 0) x90 (by kernel_rfl) (here (by kernel_rfl)) (iter_loop hx90) ?_ ?_ ?_
   ·intro s81 r h
    refine z3 1 ⟨[(1, (.ptr 500000 0)), (5, (vI s81.1)), (6, (vI s81.2.1)), (37, (.sl (List.map c_Rect x0.Rects))), (38, (vI (x0.Rects.length : Int))), (39, (vI s81.2.2)), (40, (vB (decide (s81.2.2 < (x0.Rects.length : Int)))))], [(500000, .box [(vS x0.Name), (vS x0.Material), (vI x0.Gauge), (vI x0.Grain), (.sl (List.map c_Rect x0.Rects)), (.sl (List.map c_Rect x0.Cuts)), (.sl (List.map c_Rect x0.Forms))])]⟩ (by kernel_rfl) ?_
    refine sem_seq (by kernel_rfl) ?_
    refine sem_cond (decide (s81.2.2 < (x0.Rects.length : Int))) (by kernel_rfl) (by kernel_rfl) (fun hb => ?_) (fun hb => ?_)
    ·replace h := iteT hb h
     refine z4 ⟨[(1, (.ptr 500000 0)), (5, (vI s81.1)), (6, (vI s81.2.1)), (37, (.sl (List.map c_Rect x0.Rects))), (38, (vI (x0.Rects.length : Int))), (39, (vI s81.2.2))], [(500000, .box [(vS x0.Name), (vS x0.Material), (vI x0.Gauge), (vI x0.Grain), (.sl (List.map c_Rect x0.Rects)), (.sl (List.map c_Rect x0.Cuts)), (.sl (List.map c_Rect x0.Forms))])]⟩ (by kernel_rfl) ?_
     refine sem_seq (by kernel_rfl) ?_
     refine sem_block (by kernel_rfl) ?_
     refine z7 (by kernel_rfl) ?_
     obtain ⟨x89, hx89, h⟩ := bindS h
     refine evs_op (st_idx (c := c_Rect) (l := x0.Rects) (i := s81.2.2) (kd := .i64) (sz := 4) (by kernel_rfl) hx89 rfl) ?_
     refine z1 3 ⟨[(1, (.ptr 500000 0)), (5, (vI s81.1)), (6, (vI s81.2.1)), (8, (.ptr 8 0)), (37, (.sl (List.map c_Rect x0.Rects))), (38, (vI (x0.Rects.length : Int))), (39, (vI s81.2.2))], [(8, .box [(vI x89.X), (vI x89.Y), (vI x89.W), (vI x89.H)]), (500000, .box [(vS x0.Name), (vS x0.Material), (vI x0.Gauge), (vI x0.Grain), (.sl (List.map c_Rect x0.Rects)), (.sl (List.map c_Rect x0.Cuts)), (.sl (List.map c_Rect x0.Forms))])]⟩ (by kernel_rfl) ?_
     refine sem_drawN [] [] [] [] [] 9 (by kernel_rfl) (by kernel_rfl) (by kernel_rfl) ?_
     refine evd_run 9 (by kernel_rfl) ?_
     refine evd_end (by kernel_rfl) ?_
     refine evo_run 1 (by kernel_rfl) ?_
     refine evo_endS (by kernel_rfl) (fun τ hτ => ?_)
     refine bl_normal ?_
     refine th_normalS hτ ⟨[(1, (.ptr 500000 0)), (5, (vI (imin s81.1 x89.X))), (6, (vI (imin s81.2.1 x89.Y))), (37, (.sl (List.map c_Rect x0.Rects))), (38, (vI (x0.Rects.length : Int))), (39, (vI s81.2.2))], [(500000, .box [(vS x0.Name), (vS x0.Material), (vI x0.Gauge), (vI x0.Grain), (.sl (List.map c_Rect x0.Rects)), (.sl (List.map c_Rect x0.Cuts)), (.sl (List.map c_Rect x0.Forms))])]⟩ (here (by kernel_rfl)) ?_
     refine sem_region (by kernel_rfl) ?_
     refine z6 2 (by kernel_rfl) (fun τ hτ => ?_)
     obtain rfl := Option.some.inj h
     exact lk_nextS hτ (here (by kernel_rfl))
    ·replace h := iteF hb h
     refine sem_exitS 2 (by kernel_rfl) rfl (fun τ hτ => ?_)
     refine th_exit ?_
     obtain rfl := Option.some.inj h
     exact lk_outS hτ rfl (here (by kernel_rfl))
   ·intro x
    rfl
   ·intro τ hτ
    refine bl_hit (by kernel_rfl) ?_
    refine th_normalS hτ ⟨[(1, (.ptr 500000 0)), (5, (vI x90.1)), (6, (vI x90.2))], [(500000, .box [(vS x0.Name), (vS x0.Material), (vI x0.Gauge), (vI x0.Grain), (.sl (List.map c_Rect x0.Rects)), (.sl (List.map c_Rect x0.Cuts)), (.sl (List.map c_Rect x0.Forms))])]⟩ (here (by kernel_rfl)) ?_
    refine sem_seq (by kernel_rfl) ?_
    refine sem_draw [(4, [700200]), (9, [700450]), (14, [700700])] [(4, [700200]), (9, [700450]), (14, [700700])] [] [(5, [700200]), (6, [700200]), (7, [700200]), (8, [700200]), (10, [700200, 700450]), (11, [700200, 700450]), (12, [700200, 700450]), (13, [700200, 700450]), (15, [700450, 700700])] [(0, [700200, 700450, 700700]), (1, [700200, 700450, 700700]), (2, [700200, 700450, 700700]), (3, [700200, 700450, 700700]), (4, [700450, 700700]), (5, [700200, 700450, 700700]), (6, [700200, 700450, 700700]), (7, [700200, 700450, 700700]), (8, [700200, 700450, 700700]), (9, [700700]), (10, [700200, 700450, 700700]), (11, [700200, 700450, 700700]), (12, [700200, 700450, 700700]), (13, [700200, 700450, 700700]), (15, [700450, 700700])] 16 (by kernel_rfl) (by kernel_rfl) [700200, 700450, 700700] (by kernel_rfl) (by kernel_rfl) ?_
    refine evd_run 4 (by kernel_rfl) ?_
    obtain ⟨r97, hr97, h⟩ := bindS h
    refine evd_callS [(0, 700200)] [] (by kernel_rfl) (by kernel_rfl) (W.cut_back_k_ok hr97) (by kernel_rfl) (.inl rfl) (by kernel_rfl) (by kernel_rfl) ?_
    refine evd_run 4 (by kernel_rfl) ?_
    obtain ⟨r98, hr98, h⟩ := bindS h
    refine evd_callS [(0, 700450)] [] (by kernel_rfl) (by kernel_rfl) (W.cut_back_k_ok hr98) (by kernel_rfl) (.inl rfl) (by kernel_rfl) (by kernel_rfl) ?_
    refine evd_run 4 (by kernel_rfl) ?_
    obtain ⟨r99, hr99, h⟩ := bindS h
    refine evd_callS [(0, 700700)] [] (by kernel_rfl) (by kernel_rfl) (W.cut_back_k_ok hr99) (by kernel_rfl) (.inl rfl) (by kernel_rfl) (by kernel_rfl) ?_
    refine evd_run 1 (by kernel_rfl) ?_
    refine evd_end (by kernel_rfl) ?_
    refine evo_run 5 (by kernel_rfl) ?_
    refine evo_endS (by kernel_rfl) (fun τ hτ => ?_)
    refine th_normalS hτ ⟨[(1, (.ptr 500000 0))], [(500000, .box [(vS x0.Name), (vS x0.Material), (vI x0.Gauge), (vI x0.Grain), (.row (.top 700200) 59), (.row (.top 700450) 59), (.row (.top 700700) 59)]), (700200, .row 59 [] (List.map c_Rect r97)), (700450, .row 59 [] (List.map c_Rect r98)), (700700, .row 59 [] (List.map c_Rect r99))]⟩ (here (by kernel_rfl)) ?_
    refine z7 (by kernel_rfl) ?_
    refine evs_run 1 (by kernel_rfl) ?_
    obtain ⟨r101, hr101, h⟩ := bindS h
    refine evs_callP [700200, 700450, 700700] (by kernel_rfl) (W.nest_ValidatePiece_k_ok hr101) (by kernel_rfl) (.inr rfl) (by kernel_rfl) ?_
    refine z1 1 ⟨[(2, (vI r101))], []⟩ (by kernel_rfl) ?_
    refine sem_retS (by kernel_rfl) (fun τ hτ => ?_)
    obtain rfl := Option.some.inj h
    exact rk_ret hτ [(2, (vI r101))] (here (by kernel_rfl)) (by kernel_rfl)
theorem W.geom_Inside_k_ok {a : Rect} {b : Rect} {r : Bool} (h : geom_Inside_k a b = some r) : PC G.P 24 [(.agg [(vI a.X), (vI a.Y), (vI a.W), (vI a.H)]), (.agg [(vI b.X), (vI b.Y), (vI b.W), (vI b.H)])] [] (vB r) [] := by
 refine pc_of G (fn := Try.f24) Try.func24 (by kernel_rfl) (by kernel_rfl) (by kernel_rfl) (by kernel_rfl) (by kernel_rfl) ?_
 refine sem_set ⟨[(0, (.agg [(vI a.X), (vI a.Y), (vI a.W), (vI a.H)])), (1, (.agg [(vI b.X), (vI b.Y), (vI b.W), (vI b.H)]))], []⟩ (by kernel_rfl) ?_
 refine z3 3 ⟨[(2, (.ptr 2 0)), (3, (.ptr 3 0))], [(2, .box [(vI a.X), (vI a.Y), (vI a.W), (vI a.H)]), (3, .box [(vI b.X), (vI b.Y), (vI b.W), (vI b.H)])]⟩ (by kernel_rfl) ?_
 refine sem_seq (by kernel_rfl) ?_
 obtain ⟨j3, hj3, h⟩ := bindS h
 refine sem_regionC ⟨[(4, (vB j3))], []⟩ (by kernel_rfl) ?_ (fun τ hτ => ?_)
 ·replace h := hj3
  refine evs_run 1 (by kernel_rfl) ?_
  obtain ⟨r4, hr4, h⟩ := bindS h
  refine evs_callP [] (by kernel_rfl) (W.geom_ValidRect_k_ok hr4) (by kernel_rfl) (.inl rfl) (by kernel_rfl) ?_
  refine evs_run 1 (by kernel_rfl) ?_
  refine evs_split r4 (fun b0 => ⟨[(2, (.ptr 2 0)), (3, (.ptr 3 0)), (7, (vB b0))], [(2, .box [(vI a.X), (vI a.Y), (vI a.W), (vI a.H)]), (3, .box [(vI b.X), (vI b.Y), (vI b.W), (vI b.H)])]⟩) (by kernel_rfl) (fun hb => ?_) (fun hb => ?_)
  ·replace h := iteT hb h
   refine evs_run 1 (by kernel_rfl) ?_
   obtain ⟨r5, hr5, h⟩ := bindS h
   refine evs_callP [] (by kernel_rfl) (W.geom_ValidRect_k_ok hr5) (by kernel_rfl) (.inl rfl) (by kernel_rfl) ?_
   refine evs_run 2 (by kernel_rfl) ?_
   refine evs_split r5 (fun b0 => ⟨[(2, (.ptr 2 0)), (3, (.ptr 3 0)), (11, (vB b0))], [(2, .box [(vI a.X), (vI a.Y), (vI a.W), (vI a.H)]), (3, .box [(vI b.X), (vI b.Y), (vI b.W), (vI b.H)])]⟩) (by kernel_rfl) (fun hb => ?_) (fun hb => ?_)
   ·replace h := iteT hb h
    refine evs_run 7 (by kernel_rfl) ?_
    refine evs_split (decide (b.X ≤ a.X)) (fun b0 => ⟨[(2, (.ptr 2 0)), (3, (.ptr 3 0)), (18, (vB b0))], [(2, .box [(vI a.X), (vI a.Y), (vI a.W), (vI a.H)]), (3, .box [(vI b.X), (vI b.Y), (vI b.W), (vI b.H)])]⟩) (by kernel_rfl) (fun hb => ?_) (fun hb => ?_)
    ·replace h := iteT hb h
     refine evs_run 13 (by kernel_rfl) ?_
     refine evs_split (decide ((iadd a.X a.W) ≤ (iadd b.X b.W))) (fun b0 => ⟨[(2, (.ptr 2 0)), (3, (.ptr 3 0)), (31, (vB b0))], [(2, .box [(vI a.X), (vI a.Y), (vI a.W), (vI a.H)]), (3, .box [(vI b.X), (vI b.Y), (vI b.W), (vI b.H)])]⟩) (by kernel_rfl) (fun hb => ?_) (fun hb => ?_)
     ·replace h := iteT hb h
      refine evs_run 7 (by kernel_rfl) ?_
      refine evs_split (decide (b.Y ≤ a.Y)) (fun b0 => ⟨[(2, (.ptr 2 0)), (3, (.ptr 3 0)), (38, (vB b0))], [(2, .box [(vI a.X), (vI a.Y), (vI a.W), (vI a.H)]), (3, .box [(vI b.X), (vI b.Y), (vI b.W), (vI b.H)])]⟩) (by kernel_rfl) (fun hb => ?_) (fun hb => ?_)
      ·replace h := iteT hb h
       refine z6 13 (by kernel_rfl) (fun τ hτ => ?_)
       obtain rfl := Option.some.inj h
       exact leafC hτ (here (by kernel_rfl))
      ·replace h := iteF hb h
       refine z6 13 (by kernel_rfl) (fun τ hτ => ?_)
       obtain rfl := Option.some.inj h
       exact leafC hτ (here (by kernel_rfl))
     ·replace h := iteF hb h
      refine z6 20 (by kernel_rfl) (fun τ hτ => ?_)
      obtain rfl := Option.some.inj h
      exact leafC hτ (here (by kernel_rfl))
    ·replace h := iteF hb h
     refine z6 33 (by kernel_rfl) (fun τ hτ => ?_)
     obtain rfl := Option.some.inj h
     exact leafC hτ (here (by kernel_rfl))
   ·replace h := iteF hb h
    exact nomatch h
  ·replace h := iteF hb h
   exact nomatch h
 refine th_normalS hτ ⟨[(4, (vB j3))], []⟩ (here (by kernel_rfl)) ?_
 refine sem_retS (by kernel_rfl) (fun τ hτ => ?_)
 obtain rfl := Option.some.inj h
 exact rk_ret hτ [(4, (vB j3))] (here (by kernel_rfl)) (by kernel_rfl)
theorem W.geom_Overlap_k_ok {a : Rect} {b : Rect} {r : Bool} (h : geom_Overlap_k a b = some r) : PC G.P 69 [(.agg [(vI a.X), (vI a.Y), (vI a.W), (vI a.H)]), (.agg [(vI b.X), (vI b.Y), (vI b.W), (vI b.H)])] [] (vB r) [] := by
 refine pc_of G (fn := Try.f69) Try.func69 (by kernel_rfl) (by kernel_rfl) (by kernel_rfl) (by kernel_rfl) (by kernel_rfl) ?_
 refine sem_set ⟨[(0, (.agg [(vI a.X), (vI a.Y), (vI a.W), (vI a.H)])), (1, (.agg [(vI b.X), (vI b.Y), (vI b.W), (vI b.H)]))], []⟩ (by kernel_rfl) ?_
 refine z3 3 ⟨[(2, (.ptr 2 0)), (3, (.ptr 3 0))], [(2, .box [(vI a.X), (vI a.Y), (vI a.W), (vI a.H)]), (3, .box [(vI b.X), (vI b.Y), (vI b.W), (vI b.H)])]⟩ (by kernel_rfl) ?_
 refine z7 (by kernel_rfl) ?_
 refine evs_run 1 (by kernel_rfl) ?_
 obtain ⟨r3, hr3, h⟩ := bindS h
 refine evs_callP [] (by kernel_rfl) (W.geom_ValidRect_k_ok hr3) (by kernel_rfl) (.inl rfl) (by kernel_rfl) ?_
 refine evs_run 1 (by kernel_rfl) ?_
 refine evs_split r3 (fun b0 => ⟨[(2, (.ptr 2 0)), (3, (.ptr 3 0)), (7, (vB b0))], [(2, .box [(vI a.X), (vI a.Y), (vI a.W), (vI a.H)]), (3, .box [(vI b.X), (vI b.Y), (vI b.W), (vI b.H)])]⟩) (by kernel_rfl) (fun hb => ?_) (fun hb => ?_)
 ·replace h := iteT hb h
  refine evs_run 1 (by kernel_rfl) ?_
  obtain ⟨r4, hr4, h⟩ := bindS h
  refine evs_callP [] (by kernel_rfl) (W.geom_ValidRect_k_ok hr4) (by kernel_rfl) (.inl rfl) (by kernel_rfl) ?_
  refine evs_run 2 (by kernel_rfl) ?_
  refine evs_split r4 (fun b0 => ⟨[(2, (.ptr 2 0)), (3, (.ptr 3 0)), (11, (vB b0))], [(2, .box [(vI a.X), (vI a.Y), (vI a.W), (vI a.H)]), (3, .box [(vI b.X), (vI b.Y), (vI b.W), (vI b.H)])]⟩) (by kernel_rfl) (fun hb => ?_) (fun hb => ?_)
  ·replace h := iteT hb h
   refine evs_run 10 (by kernel_rfl) ?_
   refine evs_split (decide (a.X < (iadd b.X b.W))) (fun b0 => ⟨[(2, (.ptr 2 0)), (3, (.ptr 3 0)), (21, (vB b0))], [(2, .box [(vI a.X), (vI a.Y), (vI a.W), (vI a.H)]), (3, .box [(vI b.X), (vI b.Y), (vI b.W), (vI b.H)])]⟩) (by kernel_rfl) (fun hb => ?_) (fun hb => ?_)
   ·replace h := iteT hb h
    exact nomatch h
   ·replace h := iteF hb h
    refine z1 30 ⟨[(4, (vB false))], []⟩ (by kernel_rfl) ?_
    refine sem_retS (by kernel_rfl) (fun τ hτ => ?_)
    obtain rfl := Option.some.inj h
    exact rk_ret hτ [(4, (vB false))] (here (by kernel_rfl)) (by kernel_rfl)
  ·replace h := iteF hb h
   exact nomatch h
 ·replace h := iteF hb h
  exact nomatch h
theorem W.cut_meets_1_k_ok {x0 : Rect} {a_0 : Int} {a_1 : Int} {a_2 : Int} {a_3 : Int} {r : Bool} (h : cut_meets_1_k x0 a_0 a_1 a_2 a_3 = some r) : PC G.P 68 [(.agg [(vI x0.X), (vI x0.Y), (vI x0.W), (vI x0.H)]), (.vptr [(vI a_0), (vI a_1), (vI a_2), (vI a_3)] 0)] [] (vB r) [] := by
 refine pc_of G (fn := Try.f68) Try.func68 (by kernel_rfl) (by kernel_rfl) (by kernel_rfl) (by kernel_rfl) (by kernel_rfl) ?_
 refine sem_set ⟨[(0, (.agg [(vI x0.X), (vI x0.Y), (vI x0.W), (vI x0.H)])), (1, (.vptr [(vI a_0), (vI a_1), (vI a_2), (vI a_3)] 0))], []⟩ (by kernel_rfl) ?_
 refine z3 2 ⟨[(1, (.vptr [(vI a_0), (vI a_1), (vI a_2), (vI a_3)] 0)), (2, (.ptr 2 0))], [(2, .box [(vI x0.X), (vI x0.Y), (vI x0.W), (vI x0.H)])]⟩ (by kernel_rfl) ?_
 refine z7 (by kernel_rfl) ?_
 refine evs_run 2 (by kernel_rfl) ?_
 obtain ⟨r2, hr2, h⟩ := bindS h
 refine evs_callP [] (by kernel_rfl) (W.geom_Overlap_k_ok hr2) (by kernel_rfl) (.inl rfl) (by kernel_rfl) ?_
 refine z1 1 ⟨[(3, (vB r2))], []⟩ (by kernel_rfl) ?_
 refine sem_retS (by kernel_rfl) (fun τ hτ => ?_)
 obtain rfl := Option.some.inj h
 exact rk_ret hτ [(3, (vB r2))] (here (by kernel_rfl)) (by kernel_rfl)
theorem W.slices_IndexFunc_Lapi_Rect_api_Rect__cut_meets_1_k_ok {s0 : (List Rect)} {f_0_0 : Int} {f_0_1 : Int} {f_0_2 : Int} {f_0_3 : Int} {r : Int} (h : slices_IndexFunc_Lapi_Rect_api_Rect__cut_meets_1_k s0 f_0_0 f_0_1 f_0_2 f_0_3 = some r) : PC G.P 38 [(.sl (List.map c_Rect s0)), (.fn 68 [(.vptr [(vI f_0_0), (vI f_0_1), (vI f_0_2), (vI f_0_3)] 0)])] [] (vI r) [] := by
 refine pc_of G (fn := Try.f38) Try.func38 (by kernel_rfl) (by kernel_rfl) (by kernel_rfl) (by kernel_rfl) (by kernel_rfl) ?_
 refine sem_set ⟨[(0, (.sl (List.map c_Rect s0))), (1, (.fn 68 [(.vptr [(vI f_0_0), (vI f_0_1), (vI f_0_2), (vI f_0_3)] 0)]))], []⟩ (by kernel_rfl) ?_
 refine z3 1 ⟨[(0, (.sl (List.map c_Rect s0))), (1, (.fn 68 [(.vptr [(vI f_0_0), (vI f_0_1), (vI f_0_2), (vI f_0_3)] 0)]))], []⟩ (by kernel_rfl) ?_
 refine sem_seq (by kernel_rfl) ?_
 refine z7 (by kernel_rfl) ?_
 refine evs_run 1 (by kernel_rfl) ?_
 refine evs_op (st_len (c := c_Rect) (l := s0) (x := (.sl (List.map c_Rect s0))) (by kernel_rfl) (by kernel_rfl)) ?_
 refine z1 1 ⟨[(0, (.sl (List.map c_Rect s0))), (1, (.fn 68 [(.vptr [(vI f_0_0), (vI f_0_1), (vI f_0_2), (vI f_0_3)] 0)])), (7, (vI (s0.length : Int))), (8, (vI 0))], []⟩ (by kernel_rfl) ?_
 refine sem_block (by kernel_rfl) ?_
 obtain ⟨x54, hx54, h⟩ := bindS h
 refine sem_loopS (fun (s37 : Int) => ⟨[(0, (.sl (List.map c_Rect s0))), (1, (.fn 68 [(.vptr [(vI f_0_0), (vI f_0_1), (vI f_0_2), (vI f_0_3)] 0)])), (7, (vI (s0.length : Int))), (8, (vI s37))], []⟩) (fun (x54 : Unit) => (.exit 0, ⟨[], []⟩)) (slices_IndexFunc_Lapi_Rect_api_Rect__cut_meets_1_k_l1 s0 f_0_0 f_0_1 f_0_2 f_0_3) 0 x54 (by kernel_rfl) (here (by kernel_rfl)) (iter_loop hx54) ?_ ?_ ?_
 ·intro s37 r h
  refine z3 1 ⟨[(0, (.sl (List.map c_Rect s0))), (1, (.fn 68 [(.vptr [(vI f_0_0), (vI f_0_1), (vI f_0_2), (vI f_0_3)] 0)])), (7, (vI (s0.length : Int))), (8, (vI s37)), (9, (vB (decide (s37 < (s0.length : Int)))))], []⟩ (by kernel_rfl) ?_
  refine sem_seq (by kernel_rfl) ?_
  refine sem_cond (decide (s37 < (s0.length : Int))) (by kernel_rfl) (by kernel_rfl) (fun hb => ?_) (fun hb => ?_)
  ·replace h := iteT hb h
   refine z4 ⟨[(0, (.sl (List.map c_Rect s0))), (1, (.fn 68 [(.vptr [(vI f_0_0), (vI f_0_1), (vI f_0_2), (vI f_0_3)] 0)])), (7, (vI (s0.length : Int))), (8, (vI s37))], []⟩ (by kernel_rfl) ?_
   refine sem_seq (by kernel_rfl) ?_
   refine sem_block (by kernel_rfl) ?_
   refine z3 2 ⟨[(0, (.sl (List.map c_Rect s0))), (1, (.fn 68 [(.vptr [(vI f_0_0), (vI f_0_1), (vI f_0_2), (vI f_0_3)] 0)])), (5, (vI s37)), (7, (vI (s0.length : Int))), (8, (vI s37))], []⟩ (by kernel_rfl) ?_
   refine z7 (by kernel_rfl) ?_
   refine evs_run 3 (by kernel_rfl) ?_
   obtain ⟨x52, hx52, h⟩ := bindS h
   refine evs_op (st_idx (c := c_Rect) (l := s0) (i := s37) (kd := .i64) (sz := 4) (by kernel_rfl) hx52 rfl) ?_
   refine evs_run 1 (by kernel_rfl) ?_
   obtain ⟨r53, hr53, h⟩ := bindS h
   refine evs_callP [] (by kernel_rfl) (W.cut_meets_1_k_ok hr53) (by kernel_rfl) (.inl rfl) (by kernel_rfl) ?_
   refine evs_endS (by kernel_rfl) (fun τ hτ => ?_)
   refine th_normalS hτ ⟨[(0, (.sl (List.map c_Rect s0))), (1, (.fn 68 [(.vptr [(vI f_0_0), (vI f_0_1), (vI f_0_2), (vI f_0_3)] 0)])), (5, (vI s37)), (7, (vI (s0.length : Int))), (8, (vI s37)), (16, (vB r53))], []⟩ (here (by kernel_rfl)) ?_
   refine sem_cond r53 (by kernel_rfl) (by kernel_rfl) (fun hb => ?_) (fun hb => ?_)
   ·replace h := iteT hb h
    exact nomatch h
   ·replace h := iteF hb h
    refine sem_skipS (by kernel_rfl) (fun τ hτ => ?_)
    refine bl_normal ?_
    refine th_normalS hτ ⟨[(0, (.sl (List.map c_Rect s0))), (1, (.fn 68 [(.vptr [(vI f_0_0), (vI f_0_1), (vI f_0_2), (vI f_0_3)] 0)])), (7, (vI (s0.length : Int))), (8, (vI s37))], []⟩ (here (by kernel_rfl)) ?_
    refine sem_region (by kernel_rfl) ?_
    refine z6 2 (by kernel_rfl) (fun τ hτ => ?_)
    obtain rfl := Option.some.inj h
    exact lk_nextS hτ (here (by kernel_rfl))
  ·replace h := iteF hb h
   refine sem_exitS 0 (by kernel_rfl) rfl (fun τ hτ => ?_)
   refine th_exit ?_
   obtain rfl := Option.some.inj h
   exact lk_outS hτ rfl (here (by kernel_rfl))
 ·intro x
  rfl
 ·intro τ hτ
  refine bl_hit (by kernel_rfl) ?_
  refine th_normalS hτ ⟨[], []⟩ (here (by kernel_rfl)) ?_
  refine z8 1 ⟨[(4, (vI (-1)))], []⟩ (by kernel_rfl) (fun τ hτ => ?_)
  obtain rfl := Option.some.inj h
  exact rk_ret hτ [(4, (vI (-1)))] (here (by kernel_rfl)) (by kernel_rfl)
theorem W.slices_ContainsFunc_Lapi_Rect_api_Rect__cut_meets_1_k_ok {s0 : (List Rect)} {f_0_0 : Int} {f_0_1 : Int} {f_0_2 : Int} {f_0_3 : Int} {r : Bool} (h : slices_ContainsFunc_Lapi_Rect_api_Rect__cut_meets_1_k s0 f_0_0 f_0_1 f_0_2 f_0_3 = some r) : PC G.P 22 [(.sl (List.map c_Rect s0)), (.fn 68 [(.vptr [(vI f_0_0), (vI f_0_1), (vI f_0_2), (vI f_0_3)] 0)])] [] (vB r) [] := by
 refine pc_of G (fn := Try.f22) Try.func22 (by kernel_rfl) (by kernel_rfl) (by kernel_rfl) (by kernel_rfl) (by kernel_rfl) ?_
 refine sem_set ⟨[(0, (.sl (List.map c_Rect s0))), (1, (.fn 68 [(.vptr [(vI f_0_0), (vI f_0_1), (vI f_0_2), (vI f_0_3)] 0)]))], []⟩ (by kernel_rfl) ?_
 refine z3 1 ⟨[(0, (.sl (List.map c_Rect s0))), (1, (.fn 68 [(.vptr [(vI f_0_0), (vI f_0_1), (vI f_0_2), (vI f_0_3)] 0)]))], []⟩ (by kernel_rfl) ?_
 refine z7 (by kernel_rfl) ?_
 refine evs_run 2 (by kernel_rfl) ?_
 obtain ⟨r2, hr2, h⟩ := bindS h
 refine evs_callP [] (by kernel_rfl) (W.slices_IndexFunc_Lapi_Rect_api_Rect__cut_meets_1_k_ok hr2) (by kernel_rfl) (.inl rfl) (by kernel_rfl) ?_
 refine z1 2 ⟨[(4, (vB (decide (r2 ≥ 0))))], []⟩ (by kernel_rfl) ?_
 refine sem_retS (by kernel_rfl) (fun τ hτ => ?_)
 obtain rfl := Option.some.inj h
 exact rk_ret hτ [(4, (vB (decide (r2 ≥ 0))))] (here (by kernel_rfl)) (by kernel_rfl)
theorem W.cut_meets_k_ok {r0 : Rect} {l : (List Rect)} {r : Bool} (h : cut_meets_k r0 l = some r) : PC G.P 50 [(.agg [(vI r0.X), (vI r0.Y), (vI r0.W), (vI r0.H)]), (.sl (List.map c_Rect l))] [] (vB r) [] := by
 refine pc_of G (fn := Try.f50) Try.func50 (by kernel_rfl) (by kernel_rfl) (by kernel_rfl) (by kernel_rfl) (by kernel_rfl) ?_
 refine sem_set ⟨[(0, (.agg [(vI r0.X), (vI r0.Y), (vI r0.W), (vI r0.H)])), (1, (.sl (List.map c_Rect l)))], []⟩ (by kernel_rfl) ?_
 refine z3 2 ⟨[(1, (.sl (List.map c_Rect l))), (2, (.ptr 2 0))], [(2, .box [(vI r0.X), (vI r0.Y), (vI r0.W), (vI r0.H)])]⟩ (by kernel_rfl) ?_
 refine z7 (by kernel_rfl) ?_
 refine evs_run 2 (by kernel_rfl) ?_
 obtain ⟨r2, hr2, h⟩ := bindS h
 refine evs_callP [2] (by kernel_rfl) (W.slices_ContainsFunc_Lapi_Rect_api_Rect__cut_meets_1_k_ok hr2) (by kernel_rfl) (.inr rfl) (by kernel_rfl) ?_
 refine z1 1 ⟨[(4, (vB r2))], []⟩ (by kernel_rfl) ?_
 refine sem_retS (by kernel_rfl) (fun τ hτ => ?_)
 obtain rfl := Option.some.inj h
 exact rk_ret hτ [(4, (vB r2))] (here (by kernel_rfl)) (by kernel_rfl)
end Go.Proofs.Ytgfjbgoehhnaeaa
