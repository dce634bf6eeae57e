/- The law SetupJoins, on the models. -/
import Derived.Test.YtppmnjiibmomoaaSeMJ
import Derived.Test.YtppmnjiibmomoaaSetupLawC
import Derived.Test.YtppmnjiibmomoaaVHC4
set_option linter.unusedVariables false
set_option linter.unusedSimpArgs false
set_option linter.unusedSectionVars false
namespace Go.SM
open Go Go.VI
/-- A loop that asks something of each element and gathers; it stops at the first that fails. -/
theorem loop_ask {α A S R : Type} (l : List α) (q : Nat → Bool) (f : Nat → A → A) (mk : Nat → A → S) (body : S → Option (S ⊕ R)) (no yes : R) (I : Nat → A → Prop) (a0 : A) (h0 : I 0 a0)
    (step : ∀ (k : Nat) (x : α) (a : A), l[k]? = some x → I k a → (q k = true → body (mk k a) = some (.inl (mk (k + 1) (f k a))) ∧ I (k + 1) (f k a)) ∧ (q k = false → body (mk k a) = some (.inr no))) (fin : ∀ a, I l.length a → body (mk l.length a) = some (.inr yes)) :
    loopT body (mk 0 a0) = some (if (List.range l.length).all q then yes else no) := by
  have key : ∀ (n k : Nat) (a : A), k + n = l.length → I k a → loopT body (mk k a) = some (if (List.range' k n).all q then yes else no) := by
    intro n
    induction n with
    | zero =>
      intro k a h hI; obtain rfl : k = l.length := by omega
      rw [loop_out (fin a hI)]; rfl
    | succ n ih =>
      intro k a h hI
      have hx : l[k]? = some l[k] := by simp
      rw [List.range'_succ, List.all_cons]
      cases hq : q k with
      | true => obtain ⟨q1, q2⟩ := (step k l[k] a hx hI).1 hq; rw [loop_in q1, ih (k + 1) _ (by omega) q2, Bool.true_and]
      | false => rw [loop_out ((step k l[k] a hx hI).2 hq), Bool.false_and]; rfl
  have := key l.length 0 a0 (by omega) h0
  rwa [← List.range_eq_range'] at this
def wideB (jobs : List (List (List Int))) : Bool := decide (jobs.length > 20) || jobs.any longB
theorem wide_ok (jobs : List (List (List Int))) : sheetmetallaw05_wide jobs = some (wideB jobs) := by
  unfold sheetmetallaw05_wide wideB
  by_cases h : jobs.length > 20
  · have : (jobs.length : Int) > 20 := by omega
    simp [h, this]
  · have : ¬ (jobs.length : Int) > 20 := by omega
    simp only [this, decide_false, Bool.false_eq_true, if_false, h, Bool.false_or]
    rw [loop_any jobs (sheetmetallaw05_wide_l1 jobs) longB (.inr ()) (.inl ()) (fun k x hx => ?step) ?fin]
    · cases jobs.any longB <;> rfl
    case step =>
      have hk := lt_of_get hx
      have h1 : decide ((k : Int) < (jobs.length : Int)) = true := by simp [hk]
      unfold sheetmetallaw05_wide_l1
      simp only [h1, if_true, idx_of hx, Option.bind_some, Long_ok, succ_cast k (by omega)]
    case fin => simp [sheetmetallaw05_wide_l1]
theorem wide_sz {jobs : List (List (List Int))} (h : wideB jobs = false) : jobs.length ≤ 20 ∧ ∀ x ∈ jobs, Sz x := by
  unfold wideB at h
  simp only [Bool.or_eq_false_iff, decide_eq_false_iff_not, List.any_eq_false] at h
  exact ⟨by omega, fun x hx => long_sz (Bool.eq_false_iff.2 (h.2 x hx))⟩
section
variable {jobs : List (List (List Int))} (hj : jobs.length ≤ 20) (hs : ∀ x ∈ jobs, Sz x)
include hs
theorem jobs_body : sheetmetalref05_jobsError_l1 jobs = setup_checkJobs_l1 jobs := by
  funext s
  unfold sheetmetalref05_jobsError_l1 setup_checkJobs_l1
  cases hi : idx jobs s with
  | none => rfl
  | some x =>
    have hx : x ∈ jobs := by
      unfold idx at hi
      split at hi
      · exact List.mem_of_getElem? hi
      · cases hi
    simp only [Option.bind_some, Validate_ok (hs x hx), rValidate_ok (hs x hx)]
theorem checkJobs_ok (hj : jobs.length ≤ 20) : ∃ c, setup_checkJobs jobs = some c ∧ sheetmetalref05_jobsError jobs = some c := by
  have e : sheetmetalref05_jobsError jobs = setup_checkJobs jobs := by
    unfold sheetmetalref05_jobsError setup_checkJobs
    rw [jobs_body hs]
  rw [e]
  unfold setup_checkJobs
  split
  · exact ⟨_, rfl, rfl⟩
  · obtain ⟨r, h1, _⟩ := loop_find jobs (setup_checkJobs_l1 jobs) (fun x => validCode x != 0) (fun k => .inl (validCode (jobs.getD k []))) (.inr ()) (fun k x hx => by
      have h1 : decide ((k : Int) < (jobs.length : Int)) = true := by simp [lt_of_get hx]
      have := lt_of_get hx
      have hg : jobs.getD k [] = x := by rw [List.getD_eq_getElem?_getD, hx]; rfl
      unfold setup_checkJobs_l1
      simp only [h1, if_true, idx_of hx, Option.bind_some, Validate_ok (hs x (List.mem_of_getElem? hx)), succ_cast k (by omega), hg]) (by simp [setup_checkJobs_l1])
    rw [h1]
    cases r with
    | inl c => exact ⟨c, rfl, rfl⟩
    | inr c => exact ⟨0, rfl, rfl⟩
end
/-- the number k of an order of n is one of these, and new -/
def pAt (l : List Int) (n : Nat) (k : Nat) : Bool := match l[k]? with
  | none => true
  | some x => decide (0 ≤ x ∧ x < n) && !(l.take k).any (fun y => x == y)
def permB (l : List Int) (n : Nat) : Bool := decide (l.length = n) && (List.range l.length).all (pAt l n)
theorem isPermutation_ok {l : List Int} (hl : l.length ≤ 60) (n : Nat) : setup_isPermutation l (n : Int) = some (permB l n) := by
  unfold setup_isPermutation permB
  by_cases h : l.length = n
  case neg =>
    have : ((l.length : Int) != (n : Int)) = true := by simp; omega
    simp [this, h]
  · subst h
    simp only [bne_self_eq_false, Bool.false_eq_true, if_false, decide_true, Bool.true_and]
    have hl : loopT (setup_isPermutation_l1 l (l.length : Int)) 0 = some (if (List.range l.length).all (pAt l l.length) then .inr () else .inl ()) := loop_ask l (pAt l l.length) (fun _ a => a) (fun k (_ : Unit) => (k : Int)) (setup_isPermutation_l1 l (l.length : Int)) (.inl ()) (.inr ()) (fun _ _ => True) () trivial (fun k x a hx _ => ?step) (fun a _ => ?fin)
    · rw [hl]; cases (List.range l.length).all (pAt l l.length) <;> rfl
    case step =>
      have hk := lt_of_get hx
      have h1 : decide ((k : Int) < (l.length : Int)) = true := by simp [hk]
      have hsl : slc l 0 (k : Int) = some (l.take k) := by
        unfold slc
        rw [if_pos ⟨by omega, by omega, by omega⟩]; simp
      have hc := contains_ok (l := l.take k) (by rw [List.length_take]; omega) x
      unfold setup_isPermutation_l1 pAt
      simp only [h1, if_true, idx_of hx, Option.bind_some, hx, succ_cast k (by omega)]
      by_cases q1 : x < 0
      · have : ¬ 0 ≤ x := by omega
        simp [q1, this]
      · by_cases q2 : x ≥ (l.length : Int)
        · have : ¬ x < (l.length : Int) := by omega
          simp [q1, q2, this]
        · have h0 : 0 ≤ x ∧ x < (l.length : Int) := by omega
          simp only [q1, q2, h0, decide_false, Bool.false_eq_true, if_false, hsl, Option.bind_some, hc, and_self, decide_true, Bool.true_and]
          cases (l.take k).any (fun y => x == y) <;> simp
    case fin => simp [setup_isPermutation_l1]
theorem rPermutation_ok {l : List Int} (hl : l.length ≤ 60) (n : Nat) : sheetmetalref05_permutation l (n : Int) = some (permB l n) := by
  unfold sheetmetalref05_permutation permB
  by_cases h : l.length = n
  case neg =>
    have : ((l.length : Int) != (n : Int)) = true := by simp; omega
    simp [this, h]
  · subst h
    simp only [bne_self_eq_false, Bool.false_eq_true, if_false, decide_true, Bool.true_and]
    have hmk : mk (l.length : Int) false = some (List.replicate l.length false) := by
      unfold mk; rw [if_pos ⟨by omega, by unfold LIM; omega⟩]; simp
    rw [hmk, Option.bind_some]
    have hl : loopT (sheetmetalref05_permutation_l1 l (l.length : Int)) (0, List.replicate l.length false) = some (if (List.range l.length).all (pAt l l.length) then .inr () else .inl ()) := loop_ask l (pAt l l.length) (fun k (a : List Bool) => a.set (l.getD k 0).toNat true) (fun k a => ((k : Int), a)) (sheetmetalref05_permutation_l1 l (l.length : Int)) (.inl ()) (.inr ()) (fun k a => a.length = l.length ∧ ∀ j < l.length, a[j]? = some ((l.take k).any fun y => (j : Int) == y)) (List.replicate l.length false) ⟨by simp, fun j hj => by simp [List.getElem?_replicate, hj]⟩ (fun k x a hx hI => ?step) (fun a _ => ?fin)
    · rw [hl]; cases (List.range l.length).all (pAt l l.length) <;> rfl
    case step =>
      have hk := lt_of_get hx
      have h1 : decide ((k : Int) < (l.length : Int)) = true := by simp [hk]
      have hsub : isub (l.length : Int) 1 = (l.length : Int) - 1 := isub_eq (by omega) (by omega)
      have hg : l.getD k 0 = x := by rw [List.getD_eq_getElem?_getD, hx]; rfl
      unfold sheetmetalref05_permutation_l1 pAt
      simp only [h1, if_true, idx_of hx, Option.bind_some, hx, succ_cast k (by omega), within_ok, hsub, hg]
      by_cases q : 0 ≤ x ∧ x < (l.length : Int)
      · have q' : 0 ≤ x ∧ x ≤ (l.length : Int) - 1 := by omega
        obtain ⟨j, rfl⟩ : ∃ j : Nat, x = (j : Int) := ⟨x.toNat, by omega⟩
        have hjl : j < l.length := by omega
        have ha := hI.2 j hjl
        simp only [q, q', and_self, decide_true, if_true, idx_of ha, Option.bind_some, Bool.true_and, Int.toNat_natCast]
        have ht : l.take (k + 1) = l.take k ++ [(j : Int)] := take_succ hx
        refine ⟨fun hq => ?_, fun hq => ?_⟩
        · have : ((l.take k).any fun y => (j : Int) == y) = false := by simpa using hq
          simp only [this, Bool.false_eq_true, if_false]
          refine ⟨by first | rfl | trivial, by simp [hI.1], fun i hi => ?_⟩
          rw [List.getElem?_set, ht, List.any_append]
          by_cases e : j = i
          · subst e; simp [hI.1, hjl]
          · have : ((i : Int) == (j : Int)) = false := by rw [beq_eq_false_iff_ne]; omega
            simp [e, hI.2 i hi, this]
        · have : ((l.take k).any fun y => (j : Int) == y) = true := by simpa using hq
          simp only [this, if_true]
      · have q' : ¬ (0 ≤ x ∧ x ≤ (l.length : Int) - 1) := by omega
        simp [q, q']
    case fin => simp [sheetmetalref05_permutation_l1]
def stepsOf (jobs : List (List (List Int))) : Nat := (jobs.map List.length).sum
theorem sum_steps : ∀ (jobs : List (List (List Int))) (t b : Nat), (∀ x ∈ jobs, x.length ≤ 60) → t ≤ b → b + 60 * jobs.length ≤ 100000 → jobs.foldl (fun (t : Int) x => iadd t (x.length : Int)) (t : Int) = ((t + stepsOf jobs : Nat) : Int)
  | [], t, b, _, _, _ => by simp [stepsOf]
  | x :: jobs, t, b, h, ht, hb => by
    have hx := h x (by simp)
    rw [List.length_cons] at hb
    rw [List.foldl_cons, show iadd (t : Int) (x.length : Int) = ((t + x.length : Nat) : Int) from by rw [iadd_eq (by omega) (by omega)]; omega, sum_steps jobs (t + x.length) (b + 60) (fun y hy => h y (by simp [hy])) (by omega) (by omega)]
    simp [stepsOf, Nat.add_assoc]
theorem total_ok (jobs : List (List (List Int))) (hj : jobs.length ≤ 20) : ∃ t, setup_tooMany jobs = some (decide (t > 24)) ∧ sheetmetalref05_total jobs = some t ∧ ((∀ x ∈ jobs, x.length ≤ 60) → t = (stepsOf jobs : Int)) := by
  have e : sheetmetalref05_total_l1 jobs = setup_tooMany_l1 jobs := rfl
  have h := loop_accT jobs (fun (t : Int) x => iadd t (x.length : Int)) (fun k t => (t, (k : Int))) (setup_tooMany_l1 jobs) (fun t => t) 0 (fun k x a hx => by
    have h1 : decide ((k : Int) < (jobs.length : Int)) = true := by simp [lt_of_get hx]
    have := lt_of_get hx
    unfold setup_tooMany_l1
    simp only [h1, if_true, idx_of hx, Option.bind_some, succ_cast k (by omega)]) (fun a => by simp [setup_tooMany_l1])
  refine ⟨jobs.foldl (fun (t : Int) x => iadd t (x.length : Int)) 0, ?_, ?_, fun hx => by have := sum_steps jobs 0 0 hx (Nat.le_refl _) (by omega); simpa using this⟩
  · unfold setup_tooMany
    rw [show ((0 : Int), (0 : Int)) = (0, ((0 : Nat) : Int)) from rfl, h]
    rfl
  · unfold sheetmetalref05_total
    rw [e, show ((0 : Int), (0 : Int)) = (0, ((0 : Nat) : Int)) from rfl, h]
    rfl
theorem copySet_ok {l : List Int} (h : l.length ≤ 60) : sheetmetalref05_CopySet l = some l := by
  unfold sheetmetalref05_CopySet
  have := loop_acc l (fun (a : List Int) x => a ++ [x]) (fun k a => ((k : Int), a)) (sheetmetalref05_CopySet_l1 l) (fun a => a) (fun k a => a.length = k) [] rfl (fun k x a hx ha => by
    have h1 : decide ((k : Int) < (l.length : Int)) = true := by simp [lt_of_get hx]
    have := lt_of_get hx
    unfold sheetmetalref05_CopySet_l1
    simp only [h1, if_true, idx_of hx, Option.bind_some, succ_cast k (by omega)]
    rw [app_eq (by simp [LIM]; omega)]
    exact ⟨rfl, by simp [ha]⟩) (fun a _ => by simp [sheetmetalref05_CopySet_l1])
  rw [show ((0 : Int), ([] : List Int)) = (((0 : Nat) : Int), []) from rfl, this.1]
  have e : ∀ (l a : List Int), l.foldl (fun (a : List Int) x => a ++ [x]) a = a ++ l := by
    intro l
    induction l with
    | nil => intro a; simp
    | cons x l ih => intro a; rw [List.foldl_cons, ih]; simp
  rw [e]; simp
theorem clone_ok {l : List Int} (h : l.length ≤ 60) : slices_Clone_Lint_int l = some l := by
  unfold slices_Clone_Lint_int
  rw [app_eq (by simp [LIM]; omega)]; rfl
theorem foldl_snoc {α : Type} : ∀ (l out : List α), l.foldl (fun a x => a ++ [x]) out = out ++ l
  | [], out => by simp
  | x :: l, out => by rw [List.foldl_cons, foldl_snoc l]; simp
/-- the needs of jobs in an order -/
def joinL (jobs : List (List (List Int))) (order : List Int) : List (List Int) := order.flatMap fun i => jobs.getD i.toNat []
/-- lists of no great length, many -/
def Many (l : List (List Int)) : Prop := l.length ≤ 3600 ∧ ∀ x ∈ l, x.length ≤ 60
section
variable {jobs : List (List (List Int))} (hj : jobs.length ≤ 20) (hs : ∀ x ∈ jobs, Sz x)
include hs
theorem join_in {job : List (List Int)} (hjob : job ∈ jobs) {out : List (List Int)} {b : Nat} (hb : b ≤ 3600) (hout : out.length ≤ b ∧ ∀ x ∈ out, x.length ≤ 60) :
    ∃ r, loopT (setup_join_l1 job) (0, out) = some r ∧ loopT (sheetmetalref05_join_l1 job) (0, out) = some r ∧ (r.length ≤ b + 60 ∧ ∀ x ∈ r, x.length ≤ 60) ∧ r = out ++ job := by
  have hz := hs job hjob
  have both : ∀ body : Int × List (List Int) → Option (Int × List (List Int) ⊕ List (List Int)), (∀ (k : Nat) (x : List Int) (a : List (List Int)), job[k]? = some x → a.length ≤ b + k → body ((k : Int), a) = some (.inl (((k + 1 : Nat) : Int), a ++ [x]))) → (∀ a, body ((job.length : Int), a) = some (.inr a)) →
      loopT body (0, out) = some (job.foldl (fun a x => a ++ [x]) out) ∧ (job.foldl (fun a x => a ++ [x]) out).length ≤ b + job.length ∧ ∀ x ∈ job.foldl (fun a x => a ++ [x]) out, x.length ≤ 60 := fun body h1 h2 =>
    loop_acc job (fun (a : List (List Int)) x => a ++ [x]) (fun k a => ((k : Int), a)) body (fun a => a) (fun k a => a.length ≤ b + k ∧ ∀ x ∈ a, x.length ≤ 60) out ⟨by omega, hout.2⟩ (fun k x a hx ha => ⟨h1 k x a hx ha.1, by simp; omega, fun y hy => by
      rcases List.mem_append.1 hy with q | q
      · exact ha.2 y q
      · rw [List.mem_singleton] at q; subst q; exact hz.2 _ (List.mem_of_getElem? hx)⟩) (fun a _ => h2 a)
  obtain ⟨a1, a2, a3⟩ := both (setup_join_l1 job) (fun k x a hx ha => by
    have h1 : decide ((k : Int) < (job.length : Int)) = true := by simp [lt_of_get hx]
    have := lt_of_get hx
    have := hz.1
    unfold setup_join_l1
    simp only [h1, if_true, idx_of hx, Option.bind_some, succ_cast k (by omega), clone_ok (hz.2 x (List.mem_of_getElem? hx))]
    rw [app_eq (by simp [LIM]; omega)]; rfl) (fun a => by simp [setup_join_l1])
  obtain ⟨b1, _, _⟩ := both (sheetmetalref05_join_l1 job) (fun k x a hx ha => by
    have h1 : decide ((k : Int) < (job.length : Int)) = true := by simp [lt_of_get hx]
    have := lt_of_get hx
    have := hz.1
    unfold sheetmetalref05_join_l1
    simp only [h1, if_true, idx_of hx, Option.bind_some, succ_cast k (by omega), copySet_ok (hz.2 x (List.mem_of_getElem? hx))]
    rw [app_eq (by simp [LIM]; omega)]; rfl) (fun a => by simp [sheetmetalref05_join_l1])
  exact ⟨_, a1, b1, ⟨by have := hz.1; omega, a3⟩, foldl_snoc job out⟩
theorem join_ok {order : List Int} (ho : order.length ≤ 60) (hp : permB order jobs.length = true) : ∃ r, setup_join jobs order = some r ∧ sheetmetalref05_join jobs order = some r ∧ Many r ∧ r = joinL jobs order := by
  have get : ∀ (k : Nat) (x : Int), order[k]? = some x → ∃ job, idx jobs x = some job ∧ job ∈ jobs ∧ jobs.getD x.toNat [] = job := fun k x hx => by
    unfold permB at hp
    simp only [Bool.and_eq_true, List.all_eq_true, List.mem_range] at hp
    have := hp.2 k (lt_of_get hx)
    unfold pAt at this
    simp only [hx, Bool.and_eq_true, decide_eq_true_eq] at this
    obtain ⟨j, rfl⟩ : ∃ j : Nat, x = (j : Int) := ⟨x.toNat, by omega⟩
    have hl : j < jobs.length := by omega
    exact ⟨jobs[j], idx_of (by simp), List.getElem_mem hl, by simp [List.getD_eq_getElem?_getD, hl]⟩
  -- both loops, element by element
  have key : ∀ (n k : Nat) (a : List (List Int)), k + n = order.length → (a.length ≤ 60 * k ∧ ∀ x ∈ a, x.length ≤ 60) →
      ∃ r, loopT (setup_join_l2 jobs order) ((k : Int), a) = some r ∧ loopT (sheetmetalref05_join_l2 jobs order) ((k : Int), a) = some r ∧ Many r ∧ r = a ++ joinL jobs (order.drop k) := by
    intro n
    induction n with
    | zero =>
      intro k a h ha
      obtain rfl : k = order.length := by omega
      exact ⟨a, loop_out (by simp [setup_join_l2]), loop_out (by simp [sheetmetalref05_join_l2]), ⟨by omega, ha.2⟩, by simp [joinL]⟩
    | succ n ih =>
      intro k a h ha
      have hx : order[k]? = some order[k] := by simp
      obtain ⟨job, g1, g2, g3⟩ := get k _ hx
      obtain ⟨r, r1, r2, ⟨r3, r4⟩, r5⟩ := join_in hs g2 (b := 60 * k) (by omega) ha
      have h1 : decide ((k : Int) < (order.length : Int)) = true := by simp; omega
      obtain ⟨r', s1, s2, s3, s4⟩ := ih (k + 1) r (by omega) ⟨by omega, r4⟩
      refine ⟨r', ?_, ?_, s3, by rw [s4, r5, List.drop_eq_getElem_cons (show k < order.length by omega)]; simp only [joinL, List.flatMap_cons, g3, List.append_assoc]⟩
      · rw [loop_in (s' := (((k + 1 : Nat) : Int), r))]
        · exact s1
        · unfold setup_join_l2
          simp only [h1, if_true, idx_of hx, Option.bind_some, g1, r1, succ_cast k (by omega)]
      · rw [loop_in (s' := (((k + 1 : Nat) : Int), r))]
        · exact s2
        · unfold sheetmetalref05_join_l2
          simp only [h1, if_true, idx_of hx, Option.bind_some, g1, r2, succ_cast k (by omega)]
  obtain ⟨r, h1, h2, h3, h4⟩ := key order.length 0 [] (by omega) ⟨by simp, by simp⟩
  refine ⟨r, ?_, ?_, h3, by simpa using h4⟩
  · unfold setup_join
    rw [show ((0 : Int), ([] : List (List Int))) = (((0 : Nat) : Int), []) from rfl, h1]; rfl
  · unfold sheetmetalref05_join
    rw [show ((0 : Int), ([] : List (List Int))) = (((0 : Nat) : Int), []) from rfl, h2]; rfl
theorem Join_ok (hj : jobs.length ≤ 20) {order : List Int} (ho : order.length ≤ 60) : ∃ r, setup_Join jobs order = some r ∧ sheetmetalref05_Join jobs order = some r ∧ Many r.1 := by
  have nil : Many [] := ⟨by simp, by simp⟩
  obtain ⟨c, c1, c2⟩ := checkJobs_ok hs hj
  obtain ⟨t, t1, t2, _⟩ := total_ok jobs hj
  unfold setup_Join sheetmetalref05_Join
  simp only [c1, c2, Option.bind_some, isPermutation_ok ho, rPermutation_ok ho, t1, t2]
  by_cases hc : c = 0
  case neg =>
    have : (c != 0) = true := by simp [hc]
    simp only [this, if_true]
    exact ⟨_, rfl, rfl, nil⟩
  subst hc
  simp only [bne_self_eq_false, Bool.false_eq_true, if_false]
  cases hp : permB order jobs.length with
  | false => exact ⟨_, rfl, rfl, nil⟩
  | true =>
    simp only [Bool.not_true, Bool.false_eq_true, if_false]
    obtain ⟨r, r1, r2, r3, _⟩ := join_ok hs ho hp
    by_cases ht : t > 24
    · simp only [ht, decide_true, if_true]
      exact ⟨_, rfl, rfl, nil⟩
    · simp only [ht, decide_false, Bool.false_eq_true, if_false, r1, r2, Option.bind_some]
      exact ⟨_, rfl, rfl, r3⟩
end
theorem sameNeeds_self {l : List (List Int)} (h : Many l) : sheetmetalref05_SameNeeds l l = some true := by
  have h0 := h.1
  unfold sheetmetalref05_SameNeeds
  simp only [bne_self_eq_false, Bool.false_eq_true, if_false]
  rw [loop_all l (sheetmetalref05_SameNeeds_l2 l l) (fun _ => true) (.inl ()) (.inr ()) (fun k x hx => ?s) ?f]
  · simp
  case f => simp [sheetmetalref05_SameNeeds_l2]
  case s =>
    have h1 : decide ((k : Int) < (l.length : Int)) = true := by simp [lt_of_get hx]
    have hk := lt_of_get hx
    have hxl := h.2 x (List.mem_of_getElem? hx)
    have hin := loop_all x (sheetmetalref05_SameNeeds_l1 l l (k : Int)) (fun _ => true) (.inl ()) (.inr ()) (fun i y hy => by
      have h2 : decide ((i : Int) < (x.length : Int)) = true := by simp [lt_of_get hy]
      have := lt_of_get hy
      unfold sheetmetalref05_SameNeeds_l1
      simp only [idx_of hx, Option.bind_some, h2, if_true, idx_of hy, bne_self_eq_false, Bool.false_eq_true, if_false, succ_cast i (by omega)]) (by simp [sheetmetalref05_SameNeeds_l1, idx_of hx])
    unfold sheetmetalref05_SameNeeds_l2
    simp only [h1, if_true, idx_of hx, Option.bind_some, bne_self_eq_false, Bool.false_eq_true, if_false, hin, succ_cast k (by omega)]
    simp
/-- the law overwrites what it got -/
theorem over_ok {l : List (List Int)} (h : Many l) : loopT sheetmetallaw05_SetupJoins_l2 (0, l) = some () := by
  have key : ∀ (n k : Nat) (a : List (List Int)), k + n = l.length → Many a ∧ a.length = l.length → loopT sheetmetallaw05_SetupJoins_l2 ((k : Int), a) = some () := by
    intro n
    induction n with
    | zero =>
      intro k a hk ha
      refine loop_out ?_
      unfold sheetmetallaw05_SetupJoins_l2
      have : ¬ ((k : Int) < (a.length : Int)) := by omega
      simp [this]
    | succ n ih =>
      intro k a hk ⟨ha, hal⟩
      have hka : k < a.length := by omega
      have h0 := ha.1
      have inner : ∀ (m i : Nat) (b : List (List Int)) (x : List Int), Many b → b.length = l.length → b[k]? = some x → i + m = x.length → ∃ r, loopT (sheetmetallaw05_SetupJoins_l1 ((k : Int), a)) ((i : Int), b) = some r ∧ Many r ∧ r.length = l.length := by
        intro m
        induction m with
        | zero =>
          intro i b x hb hbl hx hi
          refine ⟨b, loop_out ?_, hb, hbl⟩
          unfold sheetmetallaw05_SetupJoins_l1
          have h2 : decide ((i : Int) < (x.length : Int)) = false := by rw [decide_eq_false_iff_not]; omega
          simp only [idx_of hx, Option.bind_some, h2, Bool.false_eq_true, if_false]
        | succ m ih2 =>
          intro i b x hb hbl hx hi
          have hil : i < x.length := by omega
          have hxl := hb.2 x (List.mem_of_getElem? hx)
          have hy : x[i]? = some x[i] := by simp
          have h2 : decide ((i : Int) < (x.length : Int)) = true := by simp [hil]
          have hstep : sheetmetallaw05_SetupJoins_l1 ((k : Int), a) ((i : Int), b) = some (.inl (((i + 1 : Nat) : Int), b.set k (x.set i 77))) := by
            unfold sheetmetallaw05_SetupJoins_l1
            simp only [idx_of hx, Option.bind_some, h2, if_true, idx_of hy, succ_cast i (by omega), Int.toNat_natCast]
          rw [loop_in hstep]
          refine ih2 (i + 1) _ (x.set i 77) ⟨by rw [List.length_set]; exact hb.1, fun z hz => ?_⟩ (by rw [List.length_set]; exact hbl) (by rw [List.getElem?_set]; simp [lt_of_get hx]) (by rw [List.length_set]; omega)
          rcases List.mem_or_eq_of_mem_set hz with q | q
          · exact hb.2 z q
          · subst q; rw [List.length_set]; exact hxl
      obtain ⟨r, r1, r2, r3⟩ := inner (a[k]).length 0 a (a[k]) ha hal (by simp [hka]) (by omega)
      have h1 : decide ((k : Int) < (a.length : Int)) = true := by simp [hka]
      rw [loop_in (s' := (((k + 1 : Nat) : Int), r))]
      · exact ih (k + 1) r (by omega) ⟨r2, r3⟩
      · unfold sheetmetallaw05_SetupJoins_l2
        simp only [h1, if_true]
        rw [show ((0 : Int), a) = (((0 : Nat) : Int), a) from rfl, r1]
        simp only [Option.bind_some, succ_cast k (by omega)]
  exact key l.length 0 l (by omega) ⟨h, rfl⟩
theorem law_SetupJoins (jobs : List (List (List Int))) (order : List Int) : sheetmetallaw05_SetupJoins jobs order = some true := by
  unfold sheetmetallaw05_SetupJoins
  simp only [wide_ok, Option.bind_some, known_ok]
  cases hw : wideB jobs with
  | true => rfl
  | false =>
    obtain ⟨hj, hs⟩ := wide_sz hw
    by_cases ho : order.length > 60
    · have : (order.length : Int) > 60 := by omega
      simp [this]
    · have : ¬ (order.length : Int) > 60 := by omega
      simp only [Bool.false_eq_true, if_false, Option.bind_some, this, decide_false]
      obtain ⟨r, r1, r2, r3⟩ := Join_ok hs hj (order := order) (by omega)
      simp only [r1, r2, Option.bind_some, beq_self_eq_true, if_true, sameNeeds_self r3, over_ok r3]
end Go.SM
