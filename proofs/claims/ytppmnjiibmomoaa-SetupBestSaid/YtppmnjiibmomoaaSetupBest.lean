/- The law SetupBestLeast, on the models. -/
import Derived.Test.YtppmnjiibmomoaaSeML
import Derived.Test.YtppmnjiibmomoaaSetupJoin
import Derived.Test.YtppmnjiibmomoaaSetupKnown
set_option linter.unusedVariables false
set_option linter.unusedSimpArgs false
set_option linter.unusedSectionVars false
namespace Go.SM
open Go Go.VI
/-! ### orders -/
theorem sum_le {f : Nat → Nat} : ∀ (n : Nat) (l : List Nat), l.Nodup → (∀ x ∈ l, x < n) → (l.map f).sum ≤ ((List.range n).map f).sum
  | 0, l, _, h => by
    cases l with
    | nil => simp
    | cons x l => exact absurd (h x (by simp)) (by omega)
  | n + 1, l, hn, h => by
    rw [List.range_succ, List.map_append, List.sum_append]
    by_cases hm : n ∈ l
    · have hp := List.perm_cons_erase hm
      have e : (l.map f).sum = f n + ((l.erase n).map f).sum := by
        rw [(hp.map f).sum_nat]; simp
      have := sum_le (f := f) n (l.erase n) (hn.erase n) fun x hx => by
        have h1 := h x (List.mem_of_mem_erase hx)
        have h2 : x ≠ n := fun q => by subst q; exact absurd hx (by rw [hn.mem_erase_iff]; simp)
        omega
      rw [e]; simp; omega
    · have := sum_le (f := f) n l hn fun x hx => by
        have h1 := h x hx
        have h2 : x ≠ n := fun q => by subst q; exact hm hx
        omega
      omega
/-- each number of the order is below n, and new -/
def ordOk (l : List Int) (n : Nat) : Prop := ∀ (k : Nat) (x : Int), l[k]? = some x → (0 ≤ x ∧ x < n) ∧ ∀ j < k, l[j]? ≠ some x
theorem perm_ord {l : List Int} {n : Nat} (h : permB l n = true) : l.length = n ∧ ordOk l n := by
  unfold permB at h
  simp only [Bool.and_eq_true, decide_eq_true_eq, List.all_eq_true, List.mem_range] at h
  refine ⟨h.1, fun k x hx => ?_⟩
  have := h.2 k (lt_of_get hx)
  unfold pAt at this
  simp only [hx, Bool.and_eq_true, decide_eq_true_eq, Bool.not_eq_true', List.any_eq_false, beq_iff_eq] at this
  refine ⟨this.1, fun j hj hq => this.2 x ?_ rfl⟩
  exact List.mem_of_getElem? (i := j) (by rw [List.getElem?_take, if_pos hj]; exact hq)
theorem ord_perm {l : List Int} {n : Nat} (h1 : l.length = n) (h : ordOk l n) : permB l n = true := by
  unfold permB
  simp only [Bool.and_eq_true, decide_eq_true_eq, List.all_eq_true, List.mem_range]
  refine ⟨h1, fun k hk => ?_⟩
  have hx : l[k]? = some l[k] := by simp
  unfold pAt
  simp only [hx, Bool.and_eq_true, decide_eq_true_eq, Bool.not_eq_true', List.any_eq_false, beq_iff_eq]
  refine ⟨(h k _ hx).1, fun y hy e => ?_⟩
  obtain ⟨j, hj⟩ := List.mem_iff_getElem?.1 hy
  rw [List.getElem?_take] at hj
  split at hj
  · rename_i hjk; exact (h k _ hx).2 j hjk (by rw [hj, e])
  · cases hj
theorem order_snoc {l : List Int} {n i : Nat} (h : ordOk l n) (hi : i < n) (hn : (i : Int) ∉ l) : ordOk (l ++ [(i : Int)]) n := by
  intro k x hx
  by_cases hk : k < l.length
  · rw [List.getElem?_append_left hk] at hx
    refine ⟨(h k x hx).1, fun j hj => ?_⟩
    rw [List.getElem?_append_left (by omega)]
    exact (h k x hx).2 j hj
  · have : k = l.length := by have := lt_of_get hx; simp at this; omega
    subst this
    simp at hx
    subst hx
    refine ⟨by omega, fun j hj => ?_⟩
    rw [List.getElem?_append_left hj]
    exact fun q => hn (List.mem_of_getElem? q)
theorem ord_nodup {l : List Int} {n : Nat} (h : ordOk l n) : (l.map Int.toNat).Nodup ∧ ∀ x ∈ l.map Int.toNat, x < n := by
  refine ⟨?_, fun x hx => ?_⟩
  · rw [List.Nodup, List.pairwise_iff_getElem]
    intro i j hi hj hij
    simp only [List.length_map] at hi hj
    simp only [List.getElem_map]
    have a := h j l[j] (by simp)
    have b := h i l[i] (by simp)
    intro e
    refine a.2 i hij ?_
    rw [List.getElem?_eq_getElem hi]
    congr 1
    omega
  · obtain ⟨y, hy, rfl⟩ := List.mem_map.1 hx
    obtain ⟨k, hk⟩ := List.mem_iff_getElem?.1 hy
    have := (h k y hk).1
    omega
theorem range_getD (jobs : List (List (List Int))) : (List.range jobs.length).map (fun i => (jobs.getD i []).length) = jobs.map List.length := by
  apply List.ext_getElem?
  intro i
  by_cases h : i < jobs.length
  · simp [List.getElem?_map, h, List.getD_eq_getElem?_getD]
  · rw [List.getElem?_eq_none (by simp; omega), List.getElem?_eq_none (by simp; omega)]
theorem join_len {jobs : List (List (List Int))} {p : List Int} (h : ordOk p jobs.length) : (joinL jobs p).length ≤ stepsOf jobs := by
  obtain ⟨h1, h2⟩ := ord_nodup h
  have := sum_le (f := fun i => (jobs.getD i []).length) jobs.length _ h1 h2
  rw [range_getD] at this
  unfold joinL stepsOf
  rw [List.length_flatMap]
  rw [List.map_map] at this
  exact this
theorem join_mem {jobs : List (List (List Int))} {p : List Int} {x : List Int} (h : x ∈ joinL jobs p) : ∃ job ∈ jobs, x ∈ job := by
  unfold joinL at h
  obtain ⟨i, _, hx⟩ := List.mem_flatMap.1 h
  rw [List.getD_eq_getElem?_getD] at hx
  cases hg : jobs[i.toNat]? with
  | none => rw [hg] at hx; simp at hx
  | some job => rw [hg] at hx; exact ⟨job, List.mem_of_getElem? hg, hx⟩
/-- jobs that may be joined -/
structure Ready (jobs : List (List (List Int))) : Prop where
  few : jobs.length ≤ 4
  sz : ∀ x ∈ jobs, Sz x
  ok : ∀ x ∈ jobs, validCode x = 0
  steps : stepsOf jobs ≤ 24
theorem Ready.code {jobs : List (List (List Int))} (h : Ready jobs) {p : List Int} (hp : ordOk p jobs.length) {st : Int} (h1 : 1 ≤ st) (h3 : st ≤ 3) : Sz (joinL jobs p) ∧ checkCode (joinL jobs p) st = 0 := by
  have hl := join_len hp
  have hs := h.steps
  refine ⟨⟨by omega, fun x hx => ?_⟩, ?_⟩
  · obtain ⟨job, hj, hx⟩ := join_mem hx
    exact (h.sz job hj).2 x hx
  · have hv : validCode (joinL jobs p) = 0 := by
      unfold validCode
      rw [if_neg (by omega), if_pos]
      rw [List.all_eq_true]
      intro x hx
      obtain ⟨job, hj, hx⟩ := join_mem hx
      have := h.ok job hj
      unfold validCode at this
      split at this
      · cases this
      · split at this
        · rename_i ha; exact List.all_eq_true.1 ha x hx
        · cases this
    unfold checkCode
    rw [if_neg (by simp [hv]), if_pos ⟨h1, h3⟩]
theorem Ready.least {jobs : List (List (List Int))} (h : Ready jobs) {p : List Int} (hp : ordOk p jobs.length) {st : Int} (h1 : 1 ≤ st) (h3 : st ≤ 3) : ∃ n : Nat, setup_fewest (joinL jobs p) st = some (n : Int) ∧ setup_Least (joinL jobs p) st = some ((n : Int), 0) ∧ IsMin st (joinL jobs p) n := by
  obtain ⟨hz, hc⟩ := h.code hp h1 h3
  obtain ⟨_, hf, _⟩ := code_zero hz hc
  obtain ⟨n, q1, q2⟩ := fewest_ok h1 hf
  refine ⟨n, q1, ?_, q2⟩
  unfold setup_Least
  simp [check_ok hz, hc, q1]
theorem Ready.join {jobs : List (List (List Int))} (h : Ready jobs) {p : List Int} (hp : permB p jobs.length = true) : setup_join jobs p = some (joinL jobs p) := by
  have := h.few
  obtain ⟨r, r1, _, _, r2⟩ := join_ok h.sz (order := p) (by have := (perm_ord hp).1; omega) hp
  rw [r1, r2]

/-! ### the search -/
section
variable {jobs : List (List (List Int))} (h : Ready jobs) {st : Int} (h1 : 1 ≤ st) (h3 : st ≤ 3)
/-- what is known of the best order so far -/
def Best (jobs : List (List (List Int))) (st : Int) (least : Int) (best : List Int) : Prop := least < 0 ∨ (permB best jobs.length = true ∧ setup_fewest (joinL jobs best) st = some least)
def SpecB (jobs : List (List (List Int))) (st : Int) (rec_ : List Int → Int → List Int → Option (Int × List Int)) (order : List Int) : Prop :=
  ∀ least best, Best jobs st least best → ∃ l' b', rec_ order least best = some (l', b') ∧ Best jobs st l' b' ∧ (0 ≤ least → 0 ≤ l' ∧ l' ≤ least) ∧
    ∀ p v, permB p jobs.length = true → order <+: p → setup_fewest (joinL jobs p) st = some v → 0 ≤ l' ∧ l' ≤ v
/-- the body of the search, over what it calls -/
noncomputable def gLoop (rec_ : List Int → Int → List Int → Option (Int × List Int)) (order : List Int) (jobs : List (List (List Int))) : Int × Int × (List Int) → Option (Int × Int × (List Int) ⊕ Int × (List Int)) := fun s =>
  if (decide (s.1 < (jobs.length : Int))) then ((slices_Contains_Lint_int order s.1).bind fun r92 => if (!r92) then ((slices_Clone_Lint_int order).bind fun r99 => (app r99 [s.1]).bind fun l100 => (rec_ l100 s.2.1 s.2.2).bind fun r101 => some (.inl ((iadd s.1 1), r101.1, r101.2))) else some (.inl ((iadd s.1 1), s.2.1, s.2.2))) else (some (.inr (s.2.1, s.2.2)))
noncomputable def gBody (rec_ : List Int → Int → List Int → Option (Int × List Int)) (order : List Int) (l0 : Int) (b0 : List Int) (jobs : List (List (List Int))) (st : Int) : Option (Int × List Int) :=
  if ((order.length : Int) == (jobs.length : Int)) then ((setup_join jobs order).bind fun r28 => (setup_fewest r28 st).bind fun r29 => (if (decide (l0 < 0)) then (some true) else (some (decide (r29 < l0)))).bind fun j30 => if j30 then some (r29, order) else some (l0, b0)) else ((loopT (gLoop rec_ order jobs) (0, l0, b0)).bind fun x102 => some (x102.1, x102.2))
theorem body_inner (self : List Int → Int → List Int → List (List (List Int)) → Int → Option (Int × List Int)) (order : List Int) (l0 : Int) (b0 : List Int) : setup_Best_1'_body self order l0 b0 jobs st = gBody (fun o l b => self o l b jobs st) order l0 b0 jobs st := rfl
theorem body_outer (self : List Int → Int → List Int → List (List (List Int)) → Int → Option (Int × List Int)) (order : List Int) (l0 : Int) (b0 : List Int) : setup_Best_1_body self order l0 b0 jobs st = gBody (fun o l b => setup_Best_1' o l b jobs st) order l0 b0 jobs st := rfl
include h h1 h3
theorem body_ok {rec_ : List Int → Int → List Int → Option (Int × List Int)} {order : List Int} (ho : ordOk order jobs.length) (hle : order.length ≤ jobs.length)
    (hr : ∀ i : Nat, i < jobs.length → (i : Int) ∉ order → SpecB jobs st rec_ (order ++ [(i : Int)])) : SpecB jobs st (fun o l b => gBody rec_ o l b jobs st) order := by
  intro least best hb
  have hf := h.few
  unfold gBody
  by_cases hl : order.length = jobs.length
  · have e : ((order.length : Int) == (jobs.length : Int)) = true := by simp; omega
    have hp := ord_perm hl ho
    obtain ⟨n, q1, _, _⟩ := h.least ho h1 h3
    have uniq : ∀ p v, permB p jobs.length = true → order <+: p → setup_fewest (joinL jobs p) st = some v → v = n := fun p v hpp hpre hv => by
      have : order = p := hpre.eq_of_length (by rw [(perm_ord hpp).1, hl])
      subst this
      rw [q1] at hv; injection hv with hv; exact hv.symm
    simp only [e, if_true, h.join hp, Option.bind_some, q1]
    by_cases hneg : least < 0
    · simp only [hneg, decide_true, if_true, Option.bind_some]
      exact ⟨_, _, rfl, .inr ⟨hp, q1⟩, fun q => by omega, fun p v a b c => by rw [uniq p v a b c]; omega⟩
    · by_cases hlt : (n : Int) < least
      · simp only [hneg, hlt, decide_true, decide_false, Bool.false_eq_true, if_true, if_false, Option.bind_some]
        exact ⟨_, _, rfl, .inr ⟨hp, q1⟩, fun q => by omega, fun p v a b c => by rw [uniq p v a b c]; omega⟩
      · simp only [hneg, hlt, decide_false, Bool.false_eq_true, if_false, Option.bind_some]
        exact ⟨_, _, rfl, hb, fun q => by omega, fun p v a b c => by rw [uniq p v a b c]; omega⟩
  · have e : ((order.length : Int) == (jobs.length : Int)) = false := by rw [beq_eq_false_iff_ne]; omega
    simp only [e, Bool.false_eq_true, if_false]
    -- the loop over the jobs
    have hstep : ∀ (k x : Nat) (a : Int × List Int), (List.range jobs.length)[k]? = some x → (fun (k : Nat) (a : Int × List Int) => Best jobs st a.1 a.2 ∧ (0 ≤ least → 0 ≤ a.1 ∧ a.1 ≤ least) ∧ ∀ p v (i : Nat), permB p jobs.length = true → order <+: p → p[order.length]? = some (i : Int) → i < k → setup_fewest (joinL jobs p) st = some v → 0 ≤ a.1 ∧ a.1 ≤ v) k a → ∃ a', gLoop rec_ order jobs ((k : Int), a.1, a.2) = some (.inl (((k + 1 : Nat) : Int), a'.1, a'.2)) ∧ (fun (k : Nat) (a : Int × List Int) => Best jobs st a.1 a.2 ∧ (0 ≤ least → 0 ≤ a.1 ∧ a.1 ≤ least) ∧ ∀ p v (i : Nat), permB p jobs.length = true → order <+: p → p[order.length]? = some (i : Int) → i < k → setup_fewest (joinL jobs p) st = some v → 0 ≤ a.1 ∧ a.1 ≤ v) (k + 1) a' := by
      intro k x a hx hI
      obtain ⟨rfl, hk⟩ := range_get hx
      obtain ⟨i1, i2, i3⟩ := hI
      have h0 : decide ((x : Int) < (jobs.length : Int)) = true := by simp [hk]
      have hc := contains_ok (l := order) (by omega) (x : Int)
      have next : ∀ p v (i : Nat), permB p jobs.length = true → order <+: p → p[order.length]? = some (i : Int) → i < x + 1 → setup_fewest (joinL jobs p) st = some v → (i < x ∨ (i = x ∧ order ++ [(x : Int)] <+: p)) := fun p v i hp hpre hpi hi hv => by
        by_cases e : i = x
        · subst e
          right
          refine ⟨rfl, ?_⟩
          obtain ⟨t, rfl⟩ := hpre
          rw [List.getElem?_append_right (Nat.le_refl _), Nat.sub_self] at hpi
          cases t with
          | nil => cases hpi
          | cons y t => simp at hpi; subst hpi; exact ⟨t, by simp⟩
        · left; omega
      unfold gLoop
      simp only [h0, if_true, hc, Option.bind_some, succ_cast x (by omega)]
      by_cases hin : (x : Int) ∈ order
      · have : order.any (fun y => (x : Int) == y) = true := List.any_eq_true.2 ⟨_, hin, by simp⟩
        simp only [this, Bool.not_true, Bool.false_eq_true, if_false]
        refine ⟨a, rfl, i1, i2, fun p v i hp hpre hpi hi hv => ?_⟩
        rcases next p v i hp hpre hpi hi hv with q | ⟨rfl, _⟩
        · exact i3 p v i hp hpre hpi q hv
        · exfalso
          obtain ⟨j, hj⟩ := List.mem_iff_getElem?.1 hin
          have hjl := lt_of_get hj
          obtain ⟨t, rfl⟩ := hpre
          exact ((perm_ord hp).2 _ _ hpi).2 j hjl (by rw [List.getElem?_append_left hjl]; exact hj)
      · have : order.any (fun y => (x : Int) == y) = false := by
          rw [List.any_eq_false]; intro y hy; simp; rintro rfl; exact hin hy
        simp only [this, Bool.not_false, if_true, clone_ok (show order.length ≤ 60 by omega), Option.bind_some]
        rw [app_eq (by simp [LIM]; omega)]
        obtain ⟨l', b', r1, r2, r3, r4⟩ := hr x hk hin a.1 a.2 i1
        simp only [Option.bind_some, r1]
        refine ⟨(l', b'), rfl, r2, fun q => ?_, fun p v i hp hpre hpi hi hv => ?_⟩
        · obtain ⟨u1, u2⟩ := i2 q
          obtain ⟨w1, w2⟩ := r3 u1
          exact ⟨w1, by omega⟩
        · rcases next p v i hp hpre hpi hi hv with q | ⟨rfl, q⟩
          · obtain ⟨u1, u2⟩ := i3 p v i hp hpre hpi q hv
            obtain ⟨w1, w2⟩ := r3 u1
            exact ⟨w1, by omega⟩
          · exact r4 p v hp q hv
    obtain ⟨a, q1, q2, q3, q4⟩ := loop_rel (List.range jobs.length) (fun k (a : Int × List Int) => ((k : Int), a.1, a.2)) (gLoop rec_ order jobs) (fun a => (a.1, a.2)) (fun (k : Nat) (a : Int × List Int) => Best jobs st a.1 a.2 ∧ (0 ≤ least → 0 ≤ a.1 ∧ a.1 ≤ least) ∧ ∀ p v (i : Nat), permB p jobs.length = true → order <+: p → p[order.length]? = some (i : Int) → i < k → setup_fewest (joinL jobs p) st = some v → 0 ≤ a.1 ∧ a.1 ≤ v) (least, best)
      ⟨hb, fun q => ⟨q, Int.le_refl _⟩, fun p v i _ _ _ hi => absurd hi (by omega)⟩ hstep (fun a _ => by unfold gLoop; simp)
    · refine ⟨a.1, a.2, ?_, q2, q3, fun p v hp hpre hv => ?_⟩
      · have : ((0 : Int), least, best) = (((0 : Nat) : Int), (least, best).1, (least, best).2) := rfl
        rw [this, q1]; rfl
      · have hpl := (perm_ord hp).1
        have hx : p[order.length]? = some (p[order.length]'(by omega)) := by simp
        have hr := ((perm_ord hp).2 _ _ hx).1
        obtain ⟨i, hi⟩ : ∃ i : Nat, (p[order.length]'(by omega)) = (i : Int) := ⟨(p[order.length]'(by omega)).toNat, by omega⟩
        rw [hi] at hx hr
        exact q4 p v i hp hpre hx (by rw [List.length_range]; omega) hv
theorem inner_ok : ∀ (m n : Nat) (order : List Int), ordOk order jobs.length → order.length + m = jobs.length → m < n → SpecB jobs st (fun o l b => setup_Best_1'_n n o l b jobs st) order
  | m, 0, _, _, _, hn => absurd hn (by omega)
  | m, n + 1, order, ho, hm, hn => by
    have e : (fun o l b => setup_Best_1'_n (n + 1) o l b jobs st) = fun o l b => gBody (fun o l b => setup_Best_1'_n n o l b jobs st) o l b jobs st := rfl
    rw [e]
    refine body_ok h h1 h3 ho (by omega) fun i hi hin => ?_
    cases m with
    | zero =>
      exfalso
      obtain ⟨q1, q2⟩ := ord_nodup (order_snoc ho hi hin)
      have := sum_le (f := fun _ => 1) jobs.length _ q1 q2
      have e1 : ∀ l : List Nat, (l.map fun _ => 1).sum = l.length := fun l => by induction l with
        | nil => rfl
        | cons x l ih => simp [ih]; omega
      rw [e1, e1] at this
      simp at this
      omega
    | succ m => exact inner_ok m n _ (order_snoc ho hi hin) (by simp; omega) (by omega)
theorem search_ok : SpecB jobs st (fun o l b => setup_Best_1 o l b jobs st) [] := by
  have hf := h.few
  have e : (fun o l b => setup_Best_1 o l b jobs st) = fun o l b => gBody (fun o l b => setup_Best_1' o l b jobs st) o l b jobs st := rfl
  rw [e]
  refine body_ok h h1 h3 (by intro k x hx; simp at hx) (by simp) fun i hi hin => ?_
  exact inner_ok h h1 h3 (jobs.length - 1) 1000 _ (order_snoc (by intro k x hx; simp at hx) hi hin) (by simp; omega) (by omega)
end
/-! ### the law -/
theorem bestCode {jobs : List (List (List Int))} (hj : jobs.length ≤ 20) (hs : ∀ x ∈ jobs, Sz x) (st : Int) : (∃ c, c ≠ 0 ∧ setup_Best jobs st = some ([], 0, c)) ∨ (Ready jobs ∧ 1 ≤ st ∧ st ≤ 3 ∧ ∃ l b, setup_Best jobs st = some (b, l, 0) ∧ setup_Best_1 [] (-1) [] jobs st = some (l, b)) := by
  obtain ⟨t, t1, _, t2⟩ := total_ok jobs hj
  unfold setup_Best
  have hc : (∃ c, c ≠ 0 ∧ setup_checkJobs jobs = some c) ∨ (setup_checkJobs jobs = some 0 ∧ jobs.length ≤ 4 ∧ ∀ x ∈ jobs, validCode x = 0) := by
    unfold setup_checkJobs
    by_cases h4 : (jobs.length : Int) > 4
    · simp only [h4, decide_true, if_true]; exact .inl ⟨4, by decide, rfl⟩
    · simp only [h4, decide_false, Bool.false_eq_true, if_false]
      obtain ⟨r, h1, h2⟩ := loop_find jobs (setup_checkJobs_l1 jobs) (fun x => validCode x != 0) (fun k => .inl (validCode (jobs.getD k []))) (.inr ()) (fun k x hx => by
        have h1 : decide ((k : Int) < (jobs.length : Int)) = true := by simp [lt_of_get hx]
        have := lt_of_get hx
        have hg : jobs.getD k [] = x := by rw [List.getD_eq_getElem?_getD, hx]; rfl
        unfold setup_checkJobs_l1
        simp only [h1, if_true, idx_of hx, Option.bind_some, Validate_ok (hs x (List.mem_of_getElem? hx)), succ_cast k (by omega), hg]) (by simp [setup_checkJobs_l1])
      rw [h1]
      rcases h2 with ⟨_, k, x, hx, hq, rfl⟩ | ⟨ha, rfl⟩
      · left
        have hg : jobs.getD k [] = x := by rw [List.getD_eq_getElem?_getD, hx]; rfl
        exact ⟨validCode x, by simpa using hq, by rw [hg]; rfl⟩
      · right
        refine ⟨rfl, by omega, fun x hx => ?_⟩
        have := List.any_eq_false.1 ha x hx
        simpa using this
  rcases hc with ⟨c, c0, c1⟩ | ⟨c1, c4, cv⟩
  · left
    refine ⟨c, c0, ?_⟩
    have : (c != 0) = true := by simp [c0]
    simp only [c1, Option.bind_some, this, if_true]
  · by_cases hst : 1 ≤ st ∧ st ≤ 3
    case neg =>
      left
      refine ⟨1, by decide, ?_⟩
      simp only [c1, Option.bind_some, bne_self_eq_false, Bool.false_eq_true, if_false]
      by_cases q : st < 1
      · simp [q]
      · have : st > 3 := by omega
        simp [q, this]
    case pos =>
      have q1 : ¬ st < 1 := by omega
      have q2 : ¬ st > 3 := by omega
      simp only [c1, Option.bind_some, bne_self_eq_false, Bool.false_eq_true, if_false, q1, q2, decide_false, t1]
      by_cases ht : t > 24
      · left; exact ⟨4, by decide, by simp [ht]⟩
      · right
        have hsz : ∀ x ∈ jobs, x.length ≤ 60 := fun x hx => (hs x hx).1
        have hr : Ready jobs := ⟨c4, hs, cv, by have := t2 hsz; omega⟩
        refine ⟨hr, hst.1, hst.2, ?_⟩
        obtain ⟨l, b, r1, _⟩ := search_ok hr hst.1 hst.2 (-1) [] (.inl (by decide))
        simp only at r1
        exact ⟨l, b, by simp [ht, r1], r1⟩
theorem Join_inv {jobs : List (List (List Int))} (h : Ready jobs) {order : List Int} (ho : order.length ≤ 60) : setup_Join jobs order = some (if permB order jobs.length then (joinL jobs order, 0) else ([], 1)) := by
  have hf := h.few
  obtain ⟨t, t1, _, t2⟩ := total_ok jobs (by omega)
  have hc : setup_checkJobs jobs = some 0 := by
    unfold setup_checkJobs
    have h4 : ¬ (jobs.length : Int) > 4 := by omega
    simp only [h4, decide_false, Bool.false_eq_true, if_false]
    obtain ⟨r, h1, h2⟩ := loop_find jobs (setup_checkJobs_l1 jobs) (fun x => validCode x != 0) (fun k => .inl (validCode (jobs.getD k []))) (.inr ()) (fun k x hx => by
      have h1 : decide ((k : Int) < (jobs.length : Int)) = true := by simp [lt_of_get hx]
      have := lt_of_get hx
      have hg : jobs.getD k [] = x := by rw [List.getD_eq_getElem?_getD, hx]; rfl
      unfold setup_checkJobs_l1
      simp only [h1, if_true, idx_of hx, Option.bind_some, Validate_ok (h.sz x (List.mem_of_getElem? hx)), succ_cast k (by omega), hg]) (by simp [setup_checkJobs_l1])
    rw [h1]
    rcases h2 with ⟨_, k, x, hx, hq, rfl⟩ | ⟨ha, rfl⟩
    · have := h.ok x (List.mem_of_getElem? hx)
      simp [this] at hq
    · rfl
  have ht : ¬ t > 24 := by have := t2 (fun x hx => (h.sz x hx).1); have := h.steps; omega
  unfold setup_Join
  simp only [hc, Option.bind_some, bne_self_eq_false, Bool.false_eq_true, if_false, isPermutation_ok ho, t1, ht, decide_false]
  cases hp : permB order jobs.length with
  | false => rfl
  | true => simp [h.join hp]
theorem law_SetupBestLeast (jobs : List (List (List Int))) (st : Int) (order : List Int) : sheetmetallaw05_SetupBestLeast jobs st order = some true := by
  unfold sheetmetallaw05_SetupBestLeast
  simp only [wide_ok, Option.bind_some, known_ok]
  cases hw : wideB jobs with
  | true => rfl
  | false =>
    obtain ⟨hj, hs⟩ := wide_sz hw
    simp only [Bool.false_eq_true, if_false]
    by_cases ho : order.length > 60
    · have : (order.length : Int) > 60 := by omega
      simp [this]
    have hol : ¬ (order.length : Int) > 60 := by omega
    simp only [hol, decide_false, Bool.false_eq_true, if_false]
    have htot : ∃ t, sheetmetallaw05_total jobs = some t := by
      obtain ⟨t, _, t1, _⟩ := total_ok jobs hj
      exact ⟨t, t1⟩
    obtain ⟨t, ht⟩ := htot
    simp only [ht, Option.bind_some]
    have fin : ∀ j : Bool, (if j then some true else (setup_Best jobs st).bind fun r20 => if (r20.2.2 != 0) then ((if (r20.2.1 == 0) then (if ((r20.1.length : Int) == 0) then some true else (some false)) else (some false)).bind fun j25 => some j25) else ((setup_Join jobs r20.1).bind fun r28 => (setup_Least r28.1 st).bind fun r30 => (if (r28.2 != 0) then (some true) else (if (r30.2 != 0) then (some true) else (some (r30.1 != r20.2.1)))).bind fun j32 => if j32 then (some false) else ((setup_Join jobs order).bind fun r34 => if (r34.2 != 0) then some true else ((setup_Least r34.1 st).bind fun r40 => (if (r40.2 == 0) then (if (decide (r20.2.1 ≤ r40.1)) then some true else (some false)) else (some false)).bind fun j42 => some j42)))) = some true := by
      intro j
      cases j with
      | true => rfl
      | false =>
        simp only [Bool.false_eq_true, if_false]
        rcases bestCode hj hs st with ⟨c, c0, hb⟩ | ⟨hr, h1, h3, l, b, hb, hb1⟩
        · have : (c != 0) = true := by simp [c0]
          simp only [hb, Option.bind_some, this, if_true]
          rfl
        · obtain ⟨l', b', r1, r2, _, r4⟩ := search_ok hr h1 h3 (-1) [] (.inl (by decide))
          simp only at r1
          rw [hb1] at r1
          injection r1 with r1
          injection r1 with e1 e2
          subst e1 e2
          -- some order there is
          have hf := hr.few
          have hid : permB ((List.range jobs.length).map fun (i : Nat) => (i : Int)) jobs.length = true := ord_perm (by simp) fun k x hx => by
            rw [List.getElem?_map] at hx
            cases hg : (List.range jobs.length)[k]? with
            | none => rw [hg] at hx; cases hx
            | some y =>
              obtain ⟨rfl, hy⟩ := range_get hg
              rw [hg] at hx
              simp at hx
              subst hx
              refine ⟨by omega, fun j hjl => ?_⟩
              rw [List.getElem?_map, List.getElem?_range (by omega)]
              simp; omega
          obtain ⟨n0, m0, _, _⟩ := hr.least (perm_ord hid).2 h1 h3
          have hl0 := (r4 _ _ hid (List.nil_prefix) m0).1
          rcases r2 with q | ⟨hp, hv⟩
          · omega
          obtain ⟨n, m1, m2, m3⟩ := hr.least (perm_ord hp).2 h1 h3
          rw [m1] at hv
          injection hv with hv
          subst hv
          have hbl := (perm_ord hp).1
          have hjb : setup_Join jobs b = some (joinL jobs b, 0) := by rw [Join_inv hr (by omega), hp]; rfl
          simp only [hb, Option.bind_some, bne_self_eq_false, Bool.false_eq_true, if_false, hjb, m2]
          rw [Join_inv hr (order := order) (by omega)]
          cases hpo : permB order jobs.length with
          | false => rfl
          | true =>
            obtain ⟨m, k1, k2, _⟩ := hr.least (perm_ord hpo).2 h1 h3
            have := (r4 order _ hpo List.nil_prefix k1).2
            simp [k2, this]
    by_cases q : t > 10
    · simp only [q, decide_true, if_true, Option.bind_some]
      exact fin _
    · simp only [q, decide_false, Bool.false_eq_true, if_false]
      exact fin false
end Go.SM
