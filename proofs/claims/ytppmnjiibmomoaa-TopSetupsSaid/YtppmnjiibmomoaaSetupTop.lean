/- The law TopSetups, on the models. -/
import Derived.Test.YtppmnjiibmomoaaSetupPl
import Derived.Test.YtppmnjiibmomoaaSetupBest
import Derived.Test.YtppmnjiibmomoaaSetupLawD
set_option linter.unusedVariables false
set_option linter.unusedSimpArgs false
set_option linter.unusedSectionVars false
namespace Go.SM
open Go Go.VI
theorem cb_le {needs : List (List Int)} {st : Int} (hf : Fit needs) {n : Nat} (hn : IsMin st needs n) (hcode : checkCode needs st = 0) (l : List Window) : (cb needs st l).1 ≤ (n : Int) := by
  unfold cb
  simp only [hcode, ne_eq, not_true_eq_false, if_false]
  split
  · exact Int.natCast_nonneg n
  rename_i hw
  split
  · exact Int.natCast_nonneg n
  rename_i ho
  split
  · exact Int.natCast_nonneg n
  rename_i hb
  split
  · exact Int.natCast_nonneg n
  rename_i h0
  obtain ⟨s, w⟩ := hn.1
  have := lower w hf (by rintro rfl; exact h0 rfl) (by simpa using hw) (by simpa using ho) (by simpa using hb)
  omega
theorem up_ok : setup_Least [[0]] 1 = some (1, 0) := by
  have hz : Sz [[0]] := ⟨by decide, by decide⟩
  have hc : checkCode [[0]] 1 = 0 := by decide
  rcases least_ok hz 1 with ⟨q, _⟩ | ⟨_, n, hL, hn⟩
  · exact absurd hc q
  · have hm : IsMin 1 [[0]] 1 := by
      refine ⟨⟨1, ?_⟩, fun s c w => ?_⟩
      · have := Way.snoc (st := 1) (p := []) (b := 0) (c := 0) (s := 1) (need := [0]) .nil (by decide) (by decide) (by decide)
        have e : 0 + pop (sdiff 1 0) = 1 := by decide
        rw [e] at this
        exact this
      · obtain ⟨b, c0, w0, q1, _, q3, rfl⟩ := way_snoc (p := []) w
        obtain ⟨rfl, rfl⟩ := way_nil w0
        have hb : s.testBit 0 = true := by simpa [hit] using q3
        have := pop_pos (s := sdiff s 0) (i := 0) (by omega) (by rw [sdiff_test q1, hb]; rfl)
        omega
    rw [hL, isMin_one hn hm]; rfl
theorem join_two {needs : List (List Int)} {p : List Int} (h : permB p 2 = true) : joinL [needs, []] p = needs := by
  obtain ⟨h1, h2⟩ := perm_ord h
  match p, h1, h2 with
  | [a, b], _, h2 =>
    have ha := h2 0 a rfl
    have hb := h2 1 b rfl
    have hab : a ≠ b := fun e => hb.2 0 (by omega) (by rw [e]; rfl)
    rcases (show (a = 0 ∧ b = 1) ∨ (a = 1 ∧ b = 0) by omega) with ⟨rfl, rfl⟩ | ⟨rfl, rfl⟩ <;> simp [joinL]
theorem Bound_ok {needs : List (List Int)} (hs : Sz needs) {st : Int} (hc : checkCode needs st = 0) : ∃ l : List Window, setup_Bound needs st = some (l, 0) ∧ l.length ≤ 60 ∧ (cb needs st l).2 = 0 := by
  obtain ⟨_, hf, h1, h3, h24⟩ := code_zero hs hc
  have hb1 := bound_loop hf h1 needs.length 0 0 [] (by omega) (Nat.le_refl _) (by simp)
  obtain ⟨f', hI⟩ := gb_ok hf (st := st) needs.length 0 0 [] (by omega) (Nat.le_refl _) ⟨by simp, rfl, rfl, rfl, fun w hw => by simp at hw⟩
  refine ⟨gb needs st needs.length 0 0 [], ?_, ?_, ?_⟩
  · unfold setup_Bound
    simp only [check_ok hs, hc, Option.bind_some, bne_self_eq_false, Bool.false_eq_true, if_false]
    rw [show ((0 : Int)) = ((0 : Nat) : Int) from rfl, hb1]; rfl
  · have := hI.len; have := hs.1; omega
  · unfold cb
    simp only [hc, hI.win, hI.ord, hI.blk, ne_eq, not_true_eq_false, if_false]
    simp
    split <;> rfl
theorem law_TopSetups (x : sheetmetallaw05_Rig) (l : List Change) (w : List Window) : sheetmetaltop_TopSetups x l w = some true := by
  unfold sheetmetaltop_TopSetups
  simp only [up_ok, Option.bind_some, bne_self_eq_false, Bool.false_eq_true, if_false, Long_ok]
  generalize hneeds : x.Needs = needs
  generalize hstt : x.Stations = st
  cases hl : longB needs with
  | true => rfl
  | false =>
    have hs := long_sz hl
    simp only [Bool.false_eq_true, if_false]
    by_cases h12 : (needs.length : Int) > 12
    · simp [h12]
    by_cases hl60 : (l.length : Int) > 60
    · simp [h12, hl60]
    by_cases hw40 : (w.length : Int) > 40
    · simp [h12, hl60, hw40]
    simp only [h12, hl60, hw40, decide_false, Bool.false_eq_true, if_false, Option.bind_some]
    by_cases hc : checkCode needs st = 0
    case neg =>
      rcases least_ok hs st with ⟨_, hL⟩ | ⟨q, _⟩
      · have hP : setup_Plan needs st = some ([], checkCode needs st) := by
          unfold setup_Plan
          have : (checkCode needs st != 0) = true := by simp [hc]
          simp only [check_ok hs, Option.bind_some, this, if_true]
        have : (checkCode needs st != 0) = true := by simp [hc]
        simp only [hL, hP, Option.bind_some, bne_self_eq_false, Bool.false_eq_true, if_false, this, if_true]
        rfl
      · exact absurd q hc
    obtain ⟨_, hf, h1, h3, h24⟩ := code_zero hs hc
    obtain ⟨p, n, hP, hL, hn, hpl, hck, hp100⟩ := Plan_ok hs hc
    obtain ⟨b, hB, hb60, hbc⟩ := Bound_ok hs hc
    have hcw := (CheckBound_ok hs st (l := w) (by omega)).1
    have hcb := (CheckBound_ok hs st (l := b) (by omega)).1
    have hkp := (Check_ok hs st (l := p) (by omega)).1
    have hkl := (Check_ok hs st (l := l) (by omega)).1
    have hwle := cb_le hf hn hc w
    have hble := cb_le hf hn hc b
    have e1 : ((p.length : Int) != (n : Int)) = false := by simp; omega
    have e2 : decide ((cb needs st b).1 > (n : Int)) = false := by rw [decide_eq_false_iff_not]; omega
    have e3 : decide ((cb needs st w).1 > (n : Int)) = false := by rw [decide_eq_false_iff_not]; omega
    -- a list that serves
    have hserve : ck needs st l = 0 → n ≤ l.length := fun hk => by
      have hord : inOrdB needs.length st l = true := by
        unfold ck at hk
        simp only [hc, ne_eq, not_true_eq_false, if_false] at hk
        cases ho : inOrdB needs.length st l with
        | true => rfl
        | false => rw [if_pos ho] at hk; cases hk
      have hsrv : (List.range needs.length).all (srvAt needs st l) = true := by
        unfold ck at hk
        simp only [hc, ne_eq, not_true_eq_false, if_false, hord] at hk
        cases hq : (List.range needs.length).all (srvAt needs st l) with
        | true => rfl
        | false => rw [hq] at hk; simp at hk
      obtain ⟨s, c, hw, hcl⟩ := way_of h1 h3 (by omega) hord hsrv
      have := hn.2 _ _ hw
      omega
    -- the best order of these and of none
    have hready : Ready [needs, []] := by
      refine ⟨by simp, fun y hy => ?_, fun y hy => ?_, by simp [stepsOf]; omega⟩
      · simp at hy
        rcases hy with rfl | rfl
        · exact hs
        · exact ⟨by simp, by simp⟩
      · simp at hy
        rcases hy with rfl | rfl
        · obtain ⟨hv, _⟩ := code_zero hs hc; exact hv
        · rfl
    have hbest : ∃ o : List Int, setup_Best [needs, []] st = some (o, (n : Int), 0) ∧ o.length = 2 := by
      rcases bestCode (jobs := [needs, []]) (by simp) hready.sz st with ⟨c, c0, hb⟩ | ⟨hr, _, _, lv, o, hb, hb1⟩
      · exfalso
        obtain ⟨lv, o, r1, _⟩ := search_ok hready h1 h3 (-1) [] (.inl (by decide))
        simp only at r1
        obtain ⟨t, t1, _, t2⟩ := total_ok [needs, []] (by simp)
        have ht : ¬ t > 24 := by
          have := t2 (fun y hy => (hready.sz y hy).1)
          have := hready.steps
          omega
        have hj := Join_inv hready (order := []) (by simp)
        obtain ⟨cz, cz1, _⟩ := checkJobs_ok hready.sz (by simp)
        have hz : cz = 0 := Classical.byContradiction fun hz => by
          have e : (cz != 0) = true := by simp [hz]
          unfold setup_Join at hj
          simp only [cz1, Option.bind_some, e, if_true] at hj
          injection hj with hj
          rw [show permB [] ([needs, []] : List (List (List Int))).length = false from rfl] at hj
          injection hj with _ hj
          -- the code of one more order
          have hj2 := Join_inv hready (order := [0, 1]) (by simp)
          unfold setup_Join at hj2
          simp only [cz1, Option.bind_some, e, if_true] at hj2
          rw [show permB [0, 1] ([needs, []] : List (List (List Int))).length = true from (by decide : permB [0, 1] 2 = true)] at hj2
          injection hj2 with hj2
          injection hj2 with _ hj2
          exact hz hj2
        subst hz
        unfold setup_Best at hb
        have q1 : ¬ st < 1 := by omega
        have q2 : ¬ st > 3 := by omega
        simp only [cz1, Option.bind_some, bne_self_eq_false, Bool.false_eq_true, if_false, q1, q2, decide_false, t1, ht, r1] at hb
        injection hb with hb
        injection hb with _ hb
        injection hb with _ hb
        exact c0 hb.symm
      · obtain ⟨l', o', r1, r2, _, r4⟩ := search_ok hready h1 h3 (-1) [] (.inl (by decide))
        simp only at r1
        rw [hb1] at r1
        injection r1 with r1
        injection r1 with e1 e2
        subst e1 e2
        have hp01 : permB [0, 1] ([needs, []] : List (List (List Int))).length = true := (by decide : permB [0, 1] 2 = true)
        obtain ⟨n0, m0, _, _⟩ := hready.least (perm_ord hp01).2 h1 h3
        have hl0 := (r4 _ _ hp01 List.nil_prefix m0).1
        rcases r2 with q | ⟨hp, hv⟩
        · omega
        · have hj := join_two (needs := needs) hp
          obtain ⟨n1, k1, _, k3⟩ := hready.least (perm_ord hp).2 h1 h3
          rw [hj] at k3 k1 hv
          rw [k1] at hv
          injection hv with hv
          have := isMin_one k3 hn
          subst this
          exact ⟨o, by rw [hb, ← hv], (perm_ord hp).1⟩
    obtain ⟨o, ho1, ho2⟩ := hbest
    simp only [hL, hP, hB, hcw, hcb, hkp, hkl, Option.bind_some, bne_self_eq_false, Bool.false_eq_true, if_false, e1, hck, hbc, e2, e3, ho1, ho2]
    have hw1 : (if ((cb needs st w).2 == 0) = true then some false else some false) = some false := by split <;> rfl
    simp only [hw1, Option.bind_some, Bool.false_eq_true, if_false]
    by_cases hk0 : ck needs st l = 0
    · have hge := hserve hk0
      have g1 : decide ((l.length : Int) < (n : Int)) = false := by rw [decide_eq_false_iff_not]; omega
      have g2 : decide ((l.length : Int) < (cb needs st w).1) = false := by rw [decide_eq_false_iff_not]; omega
      simp only [hk0, beq_self_eq_true, if_true, g1, g2, Bool.false_eq_true, if_false, hw1, Option.bind_some]
      rfl
    · have g0 : (ck needs st l == 0) = false := by simp [hk0]
      simp only [g0, Bool.false_eq_true, if_false, Option.bind_some]
      simp
end Go.SM
