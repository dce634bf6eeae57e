/- setup.Plan, on the models. -/
import Derived.Test.YtppmnjiibmomoaaSetupMnt
import Derived.Test.YtppmnjiibmomoaaSetupMount
import Derived.Test.YtppmnjiibmomoaaSetupLawC
set_option linter.unusedVariables false
set_option linter.unusedSimpArgs false
set_option linter.unusedSectionVars false
namespace Go.SM
open Go Go.VI
theorem inOrd_of {n : Nat} {st : Int} {l : List Change} (h : ∀ c ∈ l, chOk n st c = true) (hs : l.Pairwise fun c d => c.Step ≤ d.Step ∧ ¬ (c.Step = d.Step ∧ c.Station = d.Station)) : inOrdB n st l = true := by
  unfold inOrdB
  rw [List.all_eq_true]
  intro k hk
  have hk := List.mem_range.1 hk
  have hg : l[k]? = some l[k] := by simp
  have hpw := List.pairwise_iff_getElem.1 hs
  unfold ioAt
  rw [hg]
  simp only [h _ (List.getElem_mem hk), Bool.true_and, Bool.and_eq_true, Bool.not_eq_true', List.any_eq_false]
  refine ⟨?_, fun d hd => ?_⟩
  · cases k with
    | zero => rfl
    | succ j =>
      have hj : l[j]? = some l[j] := by simp
      simp only [hj, decide_eq_true_eq]
      exact (hpw j (j + 1) (by omega) hk (by omega)).1
  · obtain ⟨j, hj⟩ := List.mem_iff_getElem?.1 hd
    rw [List.getElem?_take] at hj
    split at hj
    · rename_i hjk
      have hjl : j < l.length := by omega
      rw [List.getElem?_eq_getElem hjl] at hj
      injection hj with hj
      subst hj
      have := (hpw j k hjl hk hjk).2
      simp only [sameB, Bool.and_eq_true, beq_iff_eq]
      exact this
    · cases hj
theorem mtd_pre {st : Int} {l o : List Change} {i : Int} (h1 : ∀ c ∈ l, c.Step ≤ i) (h2 : ∀ c ∈ o, i < c.Step) : mtd st (l ++ o) i = doAll l (List.replicate st.toNat (-1)) := by
  unfold mtd
  rw [List.foldl_append]
  have e1 : ∀ (l : List Change) (a : List Int), (∀ c ∈ l, c.Step ≤ i) → l.foldl (fun a c => if c.Step ≤ i then a.set c.Station.toNat c.Pair else a) a = doAll l a := by
    intro l
    induction l with
    | nil => intro a _; rfl
    | cons c l ih => intro a h; rw [List.foldl_cons, if_pos (h c (by simp)), ih _ fun d hd => h d (by simp [hd])]; rfl
  have e2 : ∀ (l : List Change) (a : List Int), (∀ c ∈ l, i < c.Step) → l.foldl (fun a c => if c.Step ≤ i then a.set c.Station.toNat c.Pair else a) a = a := by
    intro l
    induction l with
    | nil => intro a _; rfl
    | cons c l ih => intro a h; have := h c (by simp); rw [List.foldl_cons, if_neg (by omega), ih _ fun d hd => h d (by simp [hd])]
  rw [e1 l _ h1, e2 o _ h2]
structure PI (st : Int) (r : List setup_stage) (S : List Int) (k : Nat) (M : List Int) (out : List Change) : Prop where
  eq : M = doAll out (List.replicate st.toNat (-1))
  len : M.length = st.toNat
  small : ∀ x ∈ M, x < 9
  once : Once M
  each : ∀ c ∈ out, 0 ≤ c.Step ∧ c.Step < k ∧ 0 ≤ c.Station ∧ c.Station < st ∧ 0 ≤ c.Pair ∧ c.Pair < 9
  ord : out.Pairwise fun c d => c.Step ≤ d.Step ∧ ¬ (c.Step = d.Step ∧ c.Station = d.Station)
  cut : ∀ (j s : Nat), j < k → S[j]? = some (s : Int) → ∃ pre post, out = pre ++ post ∧ (∀ c ∈ pre, c.Step ≤ j) ∧ (∀ c ∈ post, (j : Int) < c.Step) ∧ ∀ p : Nat, s.testBit p = true → (p : Int) ∈ doAll pre (List.replicate st.toNat (-1))
  cost : ∀ (j s v : Nat) x, j + 1 = k → S[j]? = some (s : Int) → r[j]? = some x → mfind x.changes (s : Int) = some (v : Int) → out.length ≤ v ∧ ∀ p : Nat, s.testBit p = true → (p : Int) ∈ M
  zero : k = 0 → out = []
  short : out.length ≤ 3 * k
theorem doAll_append (o o' : List Change) (M : List Int) : doAll (o ++ o') M = doAll o' (doAll o M) := by simp [doAll]
theorem plan_loop {st : Int} (h1 : 1 ≤ st) (h3 : st ≤ 3) {needs : List (List Int)} (hlen : needs.length ≤ 60) {r : List setup_stage} (hr : r.length = needs.length) (hopt : ∀ (k : Nat) x, r[k]? = some x → MapOpt st (needs.take (k + 1)) x.changes)
    {S : List Int} (hS : S.length = r.length) (hA : Along r S 0) : ∃ a : List Int × List Change, loopT (setup_Plan_l3 S) (0, List.replicate st.toNat (-1), []) = some a.2 ∧ PI st r S S.length a.1 a.2 := by
  have facts : ∀ (k s : Nat) x v, S[k]? = some (s : Int) → r[k]? = some x → mfind x.changes (s : Int) = some v → s < 512 ∧ (pop s : Int) ≤ st ∧ (k = 0 → v = (pop (sdiff s 0) : Int)) := fun k s x v hs hx hv => by
    obtain ⟨s', c, e1, rfl, hw, _⟩ := (hopt k x hx).val _ _ hv
    obtain rfl : s = s' := by omega
    have hkl : k < needs.length := by have := lt_of_get hx; omega
    have hg : needs[k]? = some needs[k] := by simp
    rw [take_succ hg] at hw
    obtain ⟨b, c0, w0, q1, q2, _, rfl⟩ := way_snoc hw
    refine ⟨q1, q2, fun hk => ?_⟩
    subst hk
    simp only [List.take_zero] at w0
    obtain ⟨rfl, rfl⟩ := way_nil w0
    omega
  have start : PI st r S 0 (List.replicate st.toNat (-1)) [] := by
    refine ⟨rfl, by simp, fun x hx => by rw [List.eq_of_mem_replicate hx]; decide, fun i j x hi hj hx => ?_, fun c hc => absurd hc (by simp), List.Pairwise.nil, fun j s hj => absurd hj (by omega), fun j s v x hj => absurd hj (by omega), fun _ => rfl, by simp⟩
    rw [List.getElem?_replicate] at hi
    split at hi
    · injection hi with hi; omega
    · cases hi
  refine loop_rel S (fun k (a : List Int × List Change) => ((k : Int), a.1, a.2)) (setup_Plan_l3 S) (fun a => a.2) (fun k a => PI st r S k a.1 a.2) (List.replicate st.toNat (-1), [])
    start (fun k x0 a hx I => ?_) (fun a _ => by unfold setup_Plan_l3; simp)
  have hk := lt_of_get hx
  obtain ⟨s, v, x, q1, q2, q3⟩ := hA.1 k (Nat.zero_le _) (by omega)
  obtain rfl : x0 = (s : Int) := by rw [q1] at hx; injection hx with hx; exact hx.symm
  obtain ⟨f1, f2, f3⟩ := facts k s x _ q1 q2 q3
  obtain ⟨⟨o, M'⟩, m1, m2⟩ := mount_ok f1 (M0 := a.1) (by rw [I.len]; omega) (by rw [I.len]; omega) I.small I.once (k : Int)
  simp only at m1 m2
  have hol : o.length ≤ pop s := by
    rw [m2.cnt]
    exact List.countP_mono_left fun p _ hp => by simp only [Bool.and_eq_true] at hp; exact hp.1
  have hd : decide ((k : Int) < (S.length : Int)) = true := by simp [hk]
  have hsh := I.short
  have hnd : ∀ c ∈ o, c.Step = (k : Int) := fun c hc => (m2.each c hc).1
  unfold setup_Plan_l3
  simp only [hd, if_true, idx_of q1, Option.bind_some, m1]
  rw [app_eq (by simp [LIM]; omega)]
  simp only [Option.bind_some, succ_cast k (by omega)]
  refine ⟨(M', a.2 ++ o), rfl, ?_, by rw [m2.len, I.len], m2.small, m2.once, fun c hc => ?_, ?_, fun j s' hj hs' => ?_, fun j s' v' x' hj hs' hx' hv' => ?_, fun q => absurd q (by omega), ?_⟩
  · rw [doAll_append, ← I.eq]; exact m2.eq
  · rcases List.mem_append.1 hc with q | q
    · have := I.each c q; omega
    · obtain ⟨e1, e2, e3, e4, e5, _⟩ := m2.each c q
      rw [I.len] at e3
      omega
  · rw [List.pairwise_append]
    refine ⟨I.ord, m2.apart.imp_of_mem fun {c d} hc hd hne => ⟨by rw [hnd c hc, hnd d hd]; exact Int.le_refl _, fun q => hne q.2⟩, fun c hc d hd => ?_⟩
    have := I.each c hc
    rw [hnd d hd]
    exact ⟨by omega, fun q => by omega⟩
  · rcases Nat.lt_or_ge j k with q | q
    · obtain ⟨pre, post, z1, z2, z3, z4⟩ := I.cut j s' q hs'
      refine ⟨pre, post ++ o, by rw [z1, List.append_assoc], z2, fun c hc => ?_, z4⟩
      rcases List.mem_append.1 hc with w | w
      · exact z3 c w
      · rw [hnd c w]; omega
    · obtain rfl : j = k := by omega
      rw [q1] at hs'
      injection hs' with hs'
      obtain rfl : s = s' := by omega
      refine ⟨a.2 ++ o, [], by simp, fun c hc => ?_, by simp, fun p hp => ?_⟩
      · rcases List.mem_append.1 hc with w | w
        · have := I.each c w; omega
        · rw [hnd c w]; exact Int.le_refl _
      · have hp9 : p < 9 := Nat.lt_of_not_le fun q9 => by
          have := Nat.testBit_lt_two_pow (Nat.lt_of_lt_of_le f1 (show 512 ≤ 2 ^ p from by
            have := Nat.pow_le_pow_right (show 0 < 2 by omega) q9; omega))
          rw [hp] at this; cases this
        have := m2.got p hp9 hp
        rwa [doAll_append, ← I.eq, ← m2.eq]
  · obtain rfl : j = k := by omega
    rw [q1] at hs'
    injection hs' with hs'
    obtain rfl : s = s' := by omega
    rw [q2] at hx'
    injection hx' with hx'
    subst hx'
    rw [q3] at hv'
    injection hv' with hv'
    have hvv : v = v' := by omega
    subst hvv
    refine ⟨?_, fun p hp => ?_⟩
    · rw [List.length_append]
      cases j with
      | zero =>
        rw [I.zero rfl]
        have e := f3 rfl
        have : o.length ≤ pop (sdiff s 0) := by
          rw [m2.cnt]
          refine List.countP_mono_left fun p _ hp => ?_
          simp only [Bool.and_eq_true] at hp
          rw [sdiff_test f1, hp.1]; simp
        simp only [List.length_nil]; omega
      | succ j =>
        obtain ⟨s2, b2, v2, u2, x2, y2, z1, z2, z3, z4, z5, z6, z7⟩ := hA.2 j (Nat.zero_le _) (by omega)
        rw [q1] at z3
        injection z3 with z3
        obtain rfl : s = s2 := by omega
        rw [q2] at z1
        injection z1 with z1
        subst z1
        rw [q3] at z5
        injection z5 with z5
        have : v = v2 := by omega
        subst this
        obtain ⟨w1, w2⟩ := I.cost j b2 u2 y2 rfl z4 z2 z6
        have : o.length ≤ pop (sdiff s b2) := by
          rw [m2.cnt]
          refine List.countP_mono_left fun p _ hp => ?_
          simp only [Bool.and_eq_true, Bool.not_eq_true', decide_eq_false_iff_not] at hp
          rw [sdiff_test f1, hp.1]
          cases hb : b2.testBit p with
          | true => exact absurd (w2 p hb) hp.2
          | false => rfl
        omega
    · have hp9 : p < 9 := Nat.lt_of_not_le fun q9 => by
        have := Nat.testBit_lt_two_pow (Nat.lt_of_lt_of_le f1 (show 512 ≤ 2 ^ p from by
          have := Nat.pow_le_pow_right (show 0 < 2 by omega) q9; omega))
        rw [hp] at this; cases this
      exact m2.got p hp9 hp
  · rw [List.length_append]; omega
/-- what Plan answers -/
theorem Plan_ok {needs : List (List Int)} (hz : Sz needs) {st : Int} (hc : checkCode needs st = 0) : ∃ (l : List Change) (n : Nat), setup_Plan needs st = some (l, 0) ∧ setup_Least needs st = some ((n : Int), 0) ∧ IsMin st needs n ∧ l.length = n ∧ ck needs st l = 0 ∧ l.length ≤ 100 := by
  obtain ⟨hv, hf, h1, h3, h24⟩ := code_zero hz hc
  obtain ⟨n, n1, n2⟩ := fewest_ok h1 hf
  have hleast : setup_Least needs st = some ((n : Int), 0) := by
    unfold setup_Least
    simp [check_ok hz, hc, n1]
  have hsm := fun l hl => (hf.2 l hl).2
  obtain ⟨r, r1, r2, r3⟩ := stages_ok (st := st) (by omega) hf.1 hsm
  obtain ⟨r', r1', r4⟩ := stages_bef (st := st) hf.1 hsm
  obtain rfl : r = r' := by rw [r1] at r1'; injection r1'
  have hmk : mk (r.length : Int) (0 : Int) = some (List.replicate r.length 0) := by
    unfold mk; rw [if_pos ⟨by omega, by unfold LIM; omega⟩]; simp
  have hst0 : (0 : Int) ≤ st := by omega
  -- the sets
  have sets : ∃ S : List Int, loopT (setup_Plan_l2 r) (isub (r.length : Int) 1, List.replicate r.length 0) = some S ∧ S.length = r.length ∧ Along r S 0 ∧ (needs ≠ [] → ∃ x, r[r.length - 1]? = some x ∧ S[r.length - 1]? = some (bestOf x.changes)) := by
    by_cases h0 : needs = []
    · subst h0
      have hr0 : r = [] := List.eq_nil_of_length_eq_zero (by rw [r2]; rfl)
      subst hr0
      exact ⟨[], loop_out (by unfold setup_Plan_l2; rfl), rfl, ⟨fun j _ hj => absurd hj (by simp), fun j _ hj => absurd hj (by simp)⟩, fun q => absurd rfl q⟩
    · obtain ⟨S, s1, s2, s3, s4⟩ := back_ok hst0 hf.1 r2 r3 r4 (way_exists h1 _ needs rfl hf) (List.length_pos_iff.2 h0)
      exact ⟨S, s1, s2, s3, fun _ => s4⟩
  obtain ⟨S, s1, s2, s3, s4⟩ := sets
  obtain ⟨⟨M, l⟩, p1, p2⟩ := plan_loop h1 h3 hf.1 r2 r3 s2 s3
  simp only at p1 p2
  have hplan : setup_Plan needs st = some (l, 0) := by
    unfold setup_Plan
    simp only [check_ok hz, hc, Option.bind_some, bne_self_eq_false, Bool.false_eq_true, if_false, r1, hmk, s1, repeat_ok h1 h3, p1]
  have hl100 : l.length ≤ 100 := by have := p2.short; omega
  -- it serves
  have hord : inOrdB needs.length st l = true := inOrd_of (fun c hc => by
    have := p2.each c hc
    unfold chOk
    rw [decide_eq_true_eq]
    omega) p2.ord
  have hmem : ∀ c ∈ l, 0 ≤ c.Station ∧ c.Station < st := fun c hc => by have := p2.each c hc; omega
  have hsrv : (List.range needs.length).all (srvAt needs st l) = true := by
    rw [List.all_eq_true]
    intro j hj
    have hj := List.mem_range.1 hj
    have hg : needs[j]? = some needs[j] := by simp
    obtain ⟨s, v, x, a1, a2, a3⟩ := s3.1 j (Nat.zero_le _) (by omega)
    obtain ⟨pre, post, b1, b2, b3, b4⟩ := p2.cut j s (by omega) a1
    unfold srvAt
    rw [hg]
    simp only
    rw [b1, mtd_pre b2 b3]
    obtain ⟨s', c, e1, _, hw, _⟩ := (r3 j x a2).val _ _ a3
    obtain rfl : s = s' := by omega
    rw [take_succ hg] at hw
    obtain ⟨_, _, _, _, _, hh, _⟩ := way_snoc hw
    refine hit_mono (fun i hi => ?_) hh
    rw [toBn_test, List.any_eq_true]
    exact ⟨(i : Int), b4 i hi, by simp⟩
  have hck : ck needs st l = 0 := by
    unfold ck
    rw [if_neg (by simp [hc]), if_neg (by simp [hord]), if_pos hsrv]
  obtain ⟨s, c, w, wc⟩ := way_of h1 h3 hl100 hord hsrv
  have hge := n2.2 _ _ w
  have hle : l.length ≤ n := by
    by_cases h0 : needs = []
    · subst h0
      have : S.length = 0 := by rw [s2, r2]; rfl
      rw [p2.zero this]; simp
    · obtain ⟨x, x1, x2⟩ := s4 h0
      have hpos := List.length_pos_iff.2 h0
      obtain ⟨s, v, x', a1, a2, a3⟩ := s3.1 (r.length - 1) (Nat.zero_le _) (by omega)
      rw [x1] at a2
      injection a2 with a2
      subst a2
      have := (p2.cost (r.length - 1) s v x (by omega) a1 x1 a3).1
      have hn : (n : Int) = (v : Int) := by
        rw [x2] at a1
        injection a1 with a1
        have hl : ((needs.length : Int) == 0) = false := by simp only [beq_eq_false_iff_ne, ne_eq]; omega
        have hsub : isub (r.length : Int) 1 = ((r.length - 1 : Nat) : Int) := by rw [isub_eq (by omega) (by omega)]; omega
        have ho := (r3 _ x x1).ok
        unfold setup_fewest at n1
        simp only [hl, Bool.false_eq_true, if_false, r1, Option.bind_some, hsub, idx_of x1, setup_stage_best, bestM_ok ho] at n1
        rw [a1, a3] at n1
        injection n1 with n1
        simpa using n1.symm
      omega
  exact ⟨l, n, hplan, hleast, n2, by omega, hck, hl100⟩
end Go.SM
