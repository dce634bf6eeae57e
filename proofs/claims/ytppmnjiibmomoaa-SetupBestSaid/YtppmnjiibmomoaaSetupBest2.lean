/- The law SetupBest, on the models. -/
import Derived.Test.YtppmnjiibmomoaaSeMQ
import Derived.Test.YtppmnjiibmomoaaSetupBest
import Derived.Test.YtppmnjiibmomoaaSetupFew
set_option linter.unusedVariables false
set_option linter.unusedSimpArgs false
set_option linter.unusedSectionVars false
namespace Go.SM
open Go Go.VI
/-! ### all orders, in ascending order -/
def exts (n : Nat) : Nat → List Int → List (List Int)
  | 0, order => [order]
  | m + 1, order => (List.range n).flatMap fun (i : Nat) => if (i : Int) ∈ order then [] else exts n m (order ++ [(i : Int)])
/-- the better one of what is known and an order -/
def stepB (V : List Int → Int) (a : Int × List Int) (p : List Int) : Int × List Int := if a.1 < 0 ∨ V p < a.1 then (V p, p) else a
def ExtS (jobs : List (List (List Int))) (V : List Int → Int) (rec_ : List Int → Int → List Int → Option (Int × List Int)) (m : Nat) (order : List Int) : Prop :=
  ∀ least best, rec_ order least best = some ((exts jobs.length m order).foldl (stepB V) (least, best))
section
variable {jobs : List (List (List Int))} (h : Ready jobs) {st : Int} (h1 : 1 ≤ st) (h3 : st ≤ 3) (V : List Int → Int)
  (hV : ∀ p, permB p jobs.length = true → setup_fewest (joinL jobs p) st = some (V p))
include h hV
theorem body_exts {rec_ : List Int → Int → List Int → Option (Int × List Int)} {m : Nat} {order : List Int} (ho : ordOk order jobs.length) (hle : order.length + m = jobs.length)
    (hr : ∀ i : Nat, i < jobs.length → (i : Int) ∉ order → ∃ m', m = m' + 1 ∧ ExtS jobs V rec_ m' (order ++ [(i : Int)])) : ExtS jobs V (fun o l b => gBody rec_ o l b jobs st) m order := by
  intro least best
  have hf := h.few
  show gBody rec_ order least best jobs st = _
  unfold gBody
  cases m with
  | zero =>
    have hl : order.length = jobs.length := by omega
    have e : ((order.length : Int) == (jobs.length : Int)) = true := by simp; omega
    have hp := ord_perm hl ho
    simp only [e, if_true, h.join hp, Option.bind_some, hV order hp, exts, List.foldl_cons, List.foldl_nil, stepB]
    by_cases hneg : least < 0
    · simp only [hneg, decide_true, if_true, Option.bind_some, true_or]
    · by_cases hlt : V order < least
      · simp only [hneg, hlt, decide_true, decide_false, Bool.false_eq_true, if_true, if_false, Option.bind_some, or_true]
      · simp only [hneg, hlt, decide_false, Bool.false_eq_true, if_false, Option.bind_some, or_self]
  | succ m =>
    have e : ((order.length : Int) == (jobs.length : Int)) = false := by rw [beq_eq_false_iff_ne]; omega
    simp only [e, Bool.false_eq_true, if_false]
    obtain ⟨a, q1, q2⟩ := loop_rel (List.range jobs.length) (fun k (a : Int × List Int) => ((k : Int), a.1, a.2)) (gLoop rec_ order jobs) (fun a => (a.1, a.2))
      (fun k a => a = ((List.range k).flatMap fun (i : Nat) => if (i : Int) ∈ order then [] else exts jobs.length m (order ++ [(i : Int)])).foldl (stepB V) (least, best)) (least, best) (by simp)
      (fun k x a hx hI => by
        obtain ⟨rfl, hk⟩ := range_get hx
        have h0 : decide ((x : Int) < (jobs.length : Int)) = true := by simp [hk]
        have hc := contains_ok (l := order) (by omega) (x : Int)
        unfold gLoop
        simp only [h0, if_true, hc, Option.bind_some, succ_cast x (by omega)]
        by_cases hin : (x : Int) ∈ order
        · have : order.any (fun y => (x : Int) == y) = true := List.any_eq_true.2 ⟨_, hin, by simp⟩
          simp only [this, Bool.not_true, Bool.false_eq_true, if_false]
          refine ⟨a, rfl, ?_⟩
          rw [List.range_succ, List.flatMap_append, List.foldl_append, ← hI]
          simp [hin]
        · have : order.any (fun y => (x : Int) == y) = false := by
            rw [List.any_eq_false]; intro y hy; simp; rintro rfl; exact hin hy
          simp only [this, Bool.not_false, if_true, clone_ok (show order.length ≤ 60 by omega), Option.bind_some]
          rw [app_eq (by simp [LIM]; omega)]
          obtain ⟨m', hm, hs⟩ := hr x hk hin
          obtain rfl : m' = m := by omega
          have := hs a.1 a.2
          simp only [Option.bind_some, this]
          refine ⟨_, rfl, ?_⟩
          rw [List.range_succ, List.flatMap_append, List.foldl_append, ← hI]
          simp [hin]) (fun a _ => by unfold gLoop; simp)
    rw [show ((0 : Int), least, best) = (((0 : Nat) : Int), (least, best).1, (least, best).2) from rfl, q1]
    rw [List.length_range] at q2
    simp only [Option.bind_some, exts]
    rw [← q2]
theorem inner_exts : ∀ (m n : Nat) (order : List Int), ordOk order jobs.length → order.length + m = jobs.length → m < n → ExtS jobs V (fun o l b => setup_Best_1'_n n o l b jobs st) m order
  | m, 0, _, _, _, hn => absurd hn (by omega)
  | m, n + 1, order, ho, hm, hn => by
    have e : (fun o l b => setup_Best_1'_n (n + 1) o l b jobs st) = fun o l b => gBody (fun o l b => setup_Best_1'_n n o l b jobs st) o l b jobs st := rfl
    rw [e]
    refine body_exts h V hV ho hm fun i hi hin => ?_
    cases m with
    | zero =>
      exfalso
      obtain ⟨q1, q2⟩ := ord_nodup (order_snoc ho hi hin)
      have := sum_le (f := fun _ => 1) jobs.length _ q1 q2
      have e1 : ∀ l : List Nat, (l.map fun _ => 1).sum = l.length := fun l => by induction l with
        | nil => rfl
        | cons x l ih => simp [ih]; omega
      rw [e1, e1] at this
      simp at this
      omega
    | succ m => exact ⟨m, rfl, inner_exts m n _ (order_snoc ho hi hin) (by simp; omega) (by omega)⟩
theorem search_exts : setup_Best_1 [] (-1) [] jobs st = some ((exts jobs.length jobs.length []).foldl (stepB V) (-1, [])) := by
  have hf := h.few
  have e : (fun o l b => setup_Best_1 o l b jobs st) = fun o l b => gBody (fun o l b => setup_Best_1' o l b jobs st) o l b jobs st := rfl
  have hb := body_exts h V hV (rec_ := fun o l b => setup_Best_1' o l b jobs st) (st := st) (m := jobs.length) (order := []) (by intro k x hx; simp at hx) (by simp) fun i hi hin =>
    ⟨jobs.length - 1, by omega, inner_exts h V hV (jobs.length - 1) 1000 _ (order_snoc (by intro k x hx; simp at hx) hi hin) (by simp; omega) (by omega)⟩
  rw [← e] at hb
  exact hb (-1) []
end
/-! ### the document's search -/
noncomputable def decd (n code : Nat) : Int × List Int := (iterT sheetmetalref05_Best_l2 6 ((code : Int), (n : Int) - 1, List.replicate n 0)).getD (0, [])
theorem dec_all : ((List.range 5).all fun n => (List.range 256).all fun code => decide (iterT sheetmetalref05_Best_l2 6 ((code : Int), (n : Int) - 1, List.replicate n 0) = some (decd n code)) && decide ((decd n code).2.length ≤ 60)) = true := by decide +kernel
noncomputable def orderOf (n code : Nat) : Option (List Int) := if (decd n code).1 > 0 ∨ permB (decd n code).2 n = false then none else some (decd n code).2
theorem orders_all : ((List.range 5).all fun n => decide ((List.range 256).filterMap (orderOf n) = exts n n [])) = true := by decide +kernel
theorem orders_ok {n : Nat} (h : n ≤ 4) : (List.range 256).filterMap (orderOf n) = exts n n [] := of_decide_eq_true (List.all_eq_true.1 orders_all n (List.mem_range.2 (by omega)))
theorem exts_ne : ((List.range 5).all fun n => decide (exts n n [] ≠ [])) = true := by decide +kernel
def stepR (V : List Int → Int) (a : List Int × Int) (p : List Int) : List Int × Int := if V p < a.2 then (p, V p) else a
theorem rsearch {jobs : List (List (List Int))} (h : Ready jobs) {st : Int} (h0 : 0 ≤ st) (V : List Int → Int)
    (hV : ∀ p, permB p jobs.length = true → sheetmetalref05_Fewest (joinL jobs p) st = some (V p)) :
    loopT (sheetmetalref05_Best_l3 jobs st) ([], 1000, 0) = some ((exts jobs.length jobs.length []).foldl (stepR V) ([], 1000)) := by
  have hf := h.few
  obtain ⟨a, q1, q2⟩ := loop_rel (List.range 256) (fun k (a : List Int × Int) => (a.1, a.2, (k : Int))) (sheetmetalref05_Best_l3 jobs st) (fun a => (a.1, a.2))
    (fun k a => a = ((List.range k).filterMap (orderOf jobs.length)).foldl (stepR V) ([], 1000)) ([], 1000) (by simp)
    (fun k x a hx hI => by
      obtain ⟨rfl, hk⟩ := range_get hx
      have h0 : decide ((x : Int) < 256) = true := by rw [decide_eq_true_eq]; omega
      have hd := List.all_eq_true.1 (List.all_eq_true.1 dec_all jobs.length (List.mem_range.2 (by omega))) x (List.mem_range.2 hk)
      simp only [Bool.and_eq_true, decide_eq_true_eq] at hd
      have hl : loopT sheetmetalref05_Best_l2 ((x : Int), isub (jobs.length : Int) 1, List.replicate jobs.length 0) = some (decd jobs.length x) := by
        rw [isub_eq (by omega) (by omega)]
        exact loopT_iff.2 ⟨6, hd.1⟩
      have hmk : mk (jobs.length : Int) (0 : Int) = some (List.replicate jobs.length 0) := by
        unfold mk
        rw [if_pos ⟨by omega, by simp [LIM]; omega⟩, Int.toNat_natCast]
      unfold sheetmetalref05_Best_l3
      simp only [h0, if_true, hmk, Option.bind_some, hl, rPermutation_ok hd.2, sheetmetalref05_Best_k1, succ_cast x (by omega)]
      rw [List.range_succ, List.filterMap_append, List.foldl_append, ← hI]
      by_cases hr : (decd jobs.length x).1 > 0
      · have : orderOf jobs.length x = none := by unfold orderOf; rw [if_pos (.inl hr)]
        simp only [hr, decide_true, if_true, Option.bind_some, List.filterMap_cons, this, List.filterMap_nil, List.foldl_nil]
        exact ⟨a, rfl, rfl⟩
      · cases hp : permB (decd jobs.length x).2 jobs.length with
        | false =>
          have : orderOf jobs.length x = none := by unfold orderOf; rw [if_pos (.inr hp)]
          simp only [hr, decide_false, Bool.false_eq_true, if_false, Bool.not_false, if_true, Option.bind_some, List.filterMap_cons, this, List.filterMap_nil, List.foldl_nil]
          exact ⟨a, rfl, rfl⟩
        | true =>
          have : orderOf jobs.length x = some (decd jobs.length x).2 := by unfold orderOf; rw [if_neg (by simp [hr, hp])]
          obtain ⟨r, _, r1, _, r2⟩ := join_ok h.sz (order := (decd jobs.length x).2) hd.2 hp
          subst r2
          simp only [hr, decide_false, Bool.false_eq_true, if_false, Bool.not_true, Option.bind_some, List.filterMap_cons, this, List.filterMap_nil, List.foldl_nil, List.foldl_cons, r1, hV _ hp, stepR]
          by_cases hlt : V (decd jobs.length x).2 < a.2
          · simp only [hlt, decide_true, if_true]
            exact ⟨_, rfl, rfl⟩
          · simp only [hlt, decide_false, Bool.false_eq_true, if_false]
            exact ⟨_, rfl, rfl⟩) (fun a _ => by
      unfold sheetmetalref05_Best_l3
      simp)
  rw [List.length_range] at q2
  rw [orders_ok hf] at q2
  rw [q2] at q1
  exact q1
theorem steps_eq (V : List Int → Int) : ∀ (l : List (List Int)) (v : Int) (p : List Int), (∀ q, 0 ≤ V q) → 0 ≤ v → l.foldl (stepB V) (v, p) = ((l.foldl (stepR V) (p, v)).2, (l.foldl (stepR V) (p, v)).1)
  | [], v, p, _, _ => rfl
  | q :: l, v, p, hV, hv => by
    simp only [List.foldl_cons, stepB, stepR]
    by_cases hlt : V q < v
    · rw [if_pos (.inr hlt), if_pos hlt]; exact steps_eq V l _ _ hV (hV q)
    · rw [if_neg (by omega), if_neg hlt]; exact steps_eq V l _ _ hV hv
theorem steps_mem (V : List Int → Int) : ∀ (l : List (List Int)) (a : List Int × Int), (l.foldl (stepR V) a).1 = a.1 ∨ (l.foldl (stepR V) a).1 ∈ l
  | [], a => .inl rfl
  | q :: l, a => by
    rw [List.foldl_cons]
    rcases steps_mem V l (stepR V a q) with e | e
    · rw [e]
      unfold stepR
      split
      · exact .inr (List.mem_cons_self)
      · exact .inl rfl
    · exact .inr (List.mem_cons_of_mem _ e)
theorem bestBoth {jobs : List (List (List Int))} (hj : jobs.length ≤ 20) (hs : ∀ x ∈ jobs, Sz x) (st : Int) :
    ∃ b l c, setup_Best jobs st = some (b, l, c) ∧ sheetmetalref05_Best jobs st = some (b, l, c) ∧ b.length ≤ 60 := by
  obtain ⟨c, c1, c2⟩ := checkJobs_ok hs hj
  obtain ⟨t, t1, t2, _⟩ := total_ok jobs hj
  have hw : (if decide (st < 1) then some true else some (decide (st > 3))) = some (!decide (1 ≤ st ∧ st ≤ 3)) := by
    by_cases q : st < 1
    · have : ¬ (1 ≤ st ∧ st ≤ 3) := by omega
      simp only [q, this, decide_true, decide_false, if_true, Bool.not_false]
    · by_cases q2 : st > 3
      · have : ¬ (1 ≤ st ∧ st ≤ 3) := by omega
        simp only [q, q2, this, decide_true, decide_false, Bool.false_eq_true, if_false, Bool.not_false]
      · have : 1 ≤ st ∧ st ≤ 3 := by omega
        simp only [q, q2, this, and_self, decide_true, decide_false, Bool.false_eq_true, if_false, Bool.not_true]
  rcases bestCode hj hs st with ⟨d, d0, hd⟩ | ⟨hr, h1, h3, l, b, hb, hb1⟩
  · refine ⟨[], 0, d, hd, ?_, by simp⟩
    unfold setup_Best at hd
    unfold sheetmetalref05_Best
    simp only [c1, c2, t1, t2, within_ok, hw, Option.bind_some] at hd ⊢
    split at hd
    · rename_i q; rw [if_pos q]; exact hd
    · rename_i q; rw [if_neg q]
      split at hd
      · rename_i q; rw [if_pos q]; exact hd
      · rename_i q; rw [if_neg q]
        split at hd
        · rename_i q; rw [if_pos q]; exact hd
        · exfalso
          obtain ⟨x, _, e⟩ := Option.bind_eq_some_iff.1 hd
          injection e with e
          injection e with _ e
          injection e with _ e
          exact d0 e.symm
  · have hf := hr.few
    have hV : ∀ p, permB p jobs.length = true → ∃ n : Nat, setup_fewest (joinL jobs p) st = some (n : Int) ∧ sheetmetalref05_Fewest (joinL jobs p) st = some (n : Int) ∧ n ≤ 540 := fun p hp => by
      obtain ⟨n, m1, _, m3⟩ := hr.least (perm_ord hp).2 h1 h3
      obtain ⟨hz, hc⟩ := hr.code (perm_ord hp).2 h1 h3
      obtain ⟨_, hfit, _⟩ := code_zero hz hc
      refine ⟨n, m1, rFewest_ok (by omega) hz.1 (fun l hl => (hfit.2 l hl).2) m3, ?_⟩
      obtain ⟨⟨s, w⟩, _⟩ := m3
      have := (way_ok (by omega) w).2.2
      have := hz.1
      omega
    let V : List Int → Int := fun p => (((setup_fewest (joinL jobs p) st).getD 0).toNat : Int)
    have hVe : ∀ p, permB p jobs.length = true → setup_fewest (joinL jobs p) st = some (V p) ∧ sheetmetalref05_Fewest (joinL jobs p) st = some (V p) ∧ V p ≤ 540 := fun p hp => by
      obtain ⟨n, n1, n2, n3⟩ := hV p hp
      have e : V p = (n : Int) := by show (((setup_fewest (joinL jobs p) st).getD 0).toNat : Int) = _; rw [n1]; simp
      rw [e]
      exact ⟨n1, n2, by omega⟩
    have hse := search_exts (st := st) hr V fun p hp => (hVe p hp).1
    have hre := rsearch (st := st) hr (by omega) V fun p hp => (hVe p hp).2.1
    have hperm : ∀ p ∈ exts jobs.length jobs.length [], permB p jobs.length = true := fun p hp => by
      rw [← orders_ok hf] at hp
      obtain ⟨k, _, e⟩ := List.mem_filterMap.1 hp
      unfold orderOf at e
      split at e
      · cases e
      · rename_i q
        injection e with e
        subst e
        simpa using fun q' => q (.inr q')
    have hne : exts jobs.length jobs.length [] ≠ [] := of_decide_eq_true (List.all_eq_true.1 exts_ne jobs.length (List.mem_range.2 (by omega)))
    cases hl : exts jobs.length jobs.length [] with
    | nil => exact absurd hl hne
    | cons p0 rest =>
      rw [hl] at hse hre hperm
      have hp0 := (hVe p0 (hperm p0 List.mem_cons_self)).2.2
      have e1 : stepB V (-1, []) p0 = (V p0, p0) := by unfold stepB; rw [if_pos (.inl (by decide))]
      have e2 : stepR V ([], 1000) p0 = (p0, V p0) := by unfold stepR; rw [if_pos (by show V p0 < 1000; omega)]
      rw [List.foldl_cons, e1, steps_eq V rest _ _ (fun q => Int.natCast_nonneg _) (Int.natCast_nonneg _)] at hse
      rw [List.foldl_cons, e2] at hre
      rw [hse] at hb1
      injection hb1 with hb1
      injection hb1 with e3 e4
      refine ⟨b, l, 0, hb, ?_, ?_⟩
      · unfold setup_Best at hb
        unfold sheetmetalref05_Best
        simp only [c1, c2, t1, t2, within_ok, hw, Option.bind_some, hre] at hb ⊢
        rw [e3, e4]
        split at hb
        · rename_i q; rw [if_pos q]; exact hb
        · rename_i q; rw [if_neg q]
          split at hb
          · rename_i q; rw [if_pos q]; exact hb
          · rename_i q; rw [if_neg q]
            split at hb
            · rename_i q; rw [if_pos q]; exact hb
            · rename_i q; rw [if_neg q]
      · have hm : b ∈ p0 :: rest := by
          rw [← e4]
          rcases steps_mem V rest (p0, V p0) with e | e
          · rw [e]; exact List.mem_cons_self
          · exact List.mem_cons_of_mem _ e
        have := (perm_ord (hperm b hm)).1
        omega
theorem law_SetupBest (jobs : List (List (List Int))) (st : Int) : sheetmetallaw05_SetupBest jobs st = some true := by
  unfold sheetmetallaw05_SetupBest
  simp only [wide_ok, Option.bind_some, known_ok]
  cases hw : wideB jobs with
  | true => rfl
  | false =>
    obtain ⟨hj, hs⟩ := wide_sz hw
    simp only [Bool.false_eq_true, if_false]
    obtain ⟨t, _, ht, _⟩ := total_ok jobs hj
    have ht : sheetmetallaw05_total jobs = some t := ht
    obtain ⟨b, l, c, b1, b2, b3⟩ := bestBoth hj hs st
    simp only [ht, Option.bind_some, b1, b2, beq_self_eq_true, if_true, sameInts_self (show b.length ≤ 1000 by omega)]
    by_cases q : t > 10
    · simp only [q, decide_true, if_true, Option.bind_some]
      cases decide (t ≤ 24) <;> rfl
    · simp only [q, decide_false, Bool.false_eq_true, if_false, Option.bind_some]
end Go.SM
