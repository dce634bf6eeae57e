/- What setup.Plan does at one step. -/
import Derived.Test.YtppmnjiibmomoaaSetupPlan
set_option linter.unusedVariables false
set_option linter.unusedSimpArgs false
set_option linter.unusedSectionVars false
namespace Go.SM
open Go Go.VI
theorem bit_all : ((List.range 512).all fun s => (List.range 9).all fun k => decide ((kand .i64 (Int.fdiv (s : Int) (2 ^ (min (Int.toNat (k : Int)) 64))) 1 == 0) = !s.testBit k)) = true := by decide +kernel
theorem bit_ok {s k : Nat} (hs : s < 512) (hk : k < 9) : (kand .i64 (Int.fdiv (s : Int) (2 ^ (min (Int.toNat (k : Int)) 64))) 1 == 0) = !s.testBit k := by
  have := List.all_eq_true.1 (List.all_eq_true.1 bit_all s (List.mem_range.2 hs)) k (List.mem_range.2 hk)
  simpa using this
/-- a free place -/
theorem free_ok {M : List Int} (h : M.length ≤ 60) : ∃ j : Int, slices_IndexFunc_Lint_int__setup_mount_1 M = some j ∧ ((j < 0 ∧ ∀ x ∈ M, 0 ≤ x) ∨ ∃ k : Nat, j = (k : Int) ∧ ∃ x, M[k]? = some x ∧ x < 0) := by
  obtain ⟨r, h1, h2⟩ := loop_find M (slices_IndexFunc_Lint_int__setup_mount_1_l1 M) (fun x => decide (x < 0)) (fun k => .inl (k : Int)) (.inr ()) (fun k x hx => by
    have h1 : decide ((k : Int) < (M.length : Int)) = true := by simp [lt_of_get hx]
    have := lt_of_get hx
    unfold slices_IndexFunc_Lint_int__setup_mount_1_l1 setup_mount_1
    simp only [h1, if_true, idx_of hx, Option.bind_some, succ_cast k (by omega)]) (by simp [slices_IndexFunc_Lint_int__setup_mount_1_l1])
  unfold slices_IndexFunc_Lint_int__setup_mount_1
  rw [h1]
  rcases h2 with ⟨_, k, x, hx, hq, rfl⟩ | ⟨ha, rfl⟩
  · exact ⟨k, rfl, .inr ⟨k, rfl, x, hx, by simpa using hq⟩⟩
  · refine ⟨-1, rfl, .inl ⟨by decide, fun x hx => ?_⟩⟩
    have := List.any_eq_false.1 ha x hx
    simpa using this
/-- a place whose pair is not wanted -/
theorem other_ok {M : List Int} (h : M.length ≤ 60) {s : Nat} (hs : s < 512) (hM : ∀ x ∈ M, 0 ≤ x ∧ x < 9) (hex : ∃ x ∈ M, s.testBit x.toNat = false) : ∃ k : Nat, slices_IndexFunc_Lint_int__setup_mount_2 M (s : Int) = some (k : Int) ∧ ∃ x, M[k]? = some x ∧ s.testBit x.toNat = false := by
  obtain ⟨r, h1, h2⟩ := loop_find M (slices_IndexFunc_Lint_int__setup_mount_2_l1 M (s : Int)) (fun x => !s.testBit x.toNat) (fun k => .inl (k : Int)) (.inr ()) (fun k x hx => by
    have h1 : decide ((k : Int) < (M.length : Int)) = true := by simp [lt_of_get hx]
    have := lt_of_get hx
    obtain ⟨x0, x9⟩ := hM x (List.mem_of_getElem? hx)
    obtain ⟨y, rfl⟩ : ∃ y : Nat, x = (y : Int) := ⟨x.toNat, by omega⟩
    have hb := bit_ok hs (show y < 9 by omega)
    simp only [Int.toNat_natCast] at hb
    unfold slices_IndexFunc_Lint_int__setup_mount_2_l1 setup_mount_2
    simp only [h1, if_true, idx_of hx, Option.bind_some, succ_cast k (by omega), x0, decide_true, hb, Int.toNat_natCast]) (by simp [slices_IndexFunc_Lint_int__setup_mount_2_l1])
  unfold slices_IndexFunc_Lint_int__setup_mount_2
  rw [h1]
  rcases h2 with ⟨_, k, x, hx, hq, rfl⟩ | ⟨ha, rfl⟩
  · exact ⟨k, rfl, x, hx, by simpa using hq⟩
  · obtain ⟨x, hx, hb⟩ := hex
    have := List.any_eq_false.1 ha x hx
    rw [hb] at this
    exact absurd rfl this
/-- the changes of a step, done one after another -/
def doAll (o : List Change) (M : List Int) : List Int := o.foldl (fun a c => a.set c.Station.toNat c.Pair) M
theorem doAll_snoc (o : List Change) (c : Change) (M : List Int) : doAll (o ++ [c]) M = (doAll o M).set c.Station.toNat c.Pair := by simp [doAll]
/-- what is mounted: pairs, each at one station -/
def Once (M : List Int) : Prop := ∀ (i j : Nat) (x : Int), M[i]? = some x → M[j]? = some x → 0 ≤ x → i = j
theorem once_set {M : List Int} (h : Once M) {k : Nat} {x : Int} (hn : x ∉ M) : Once (M.set k x) := by
  intro i j y hi hj hy
  rw [List.getElem?_set] at hi hj
  split at hi
  · rename_i e1
    split at hj
    · rename_i e2; omega
    · split at hi
      · injection hi with hi
        subst hi
        exact absurd (List.mem_of_getElem? hj) hn
      · cases hi
  · split at hj
    · split at hj
      · injection hj with hj
        subst hj
        exact absurd (List.mem_of_getElem? hi) hn
      · cases hj
    · exact h i j y hi hj hy
theorem once_nodup {M : List Int} (h : Once M) (h0 : ∀ x ∈ M, 0 ≤ x) : M.Nodup := by
  rw [List.Nodup, List.pairwise_iff_getElem]
  intro i j hi hj hij e
  have := h i j M[i] (by simp) (by rw [List.getElem?_eq_getElem hj, e]) (h0 _ (List.getElem_mem hi))
  omega
/-- a set that holds different pairs has as many -/
theorem pop_ge {s : Nat} : ∀ (l : List Nat), l.Nodup → (∀ x ∈ l, x < 9 ∧ s.testBit x = true) → l.length ≤ pop s := by
  intro l hn hl
  unfold pop
  rw [List.countP_eq_length_filter]
  have : ∀ (l m : List Nat), l.Nodup → (∀ x ∈ l, x ∈ m) → l.length ≤ m.length := by
    intro l
    induction l with
    | nil => intro m _ _; simp
    | cons x l ih =>
      intro m hn hs
      rw [List.nodup_cons] at hn
      have hx := hs x (by simp)
      have := ih (m.erase x) hn.2 fun y hy => (List.mem_erase_of_ne (by rintro rfl; exact hn.1 hy)).2 (hs y (by simp [hy]))
      rw [List.length_erase_of_mem hx] at this
      have : 0 < m.length := List.length_pos_of_mem hx
      simp only [List.length_cons]; omega
  exact this l _ hn fun x hx => List.mem_filter.2 ⟨List.mem_range.2 (hl x hx).1, (hl x hx).2⟩
structure MI (s : Nat) (step : Int) (M0 : List Int) (k : Nat) (o : List Change) (M : List Int) : Prop where
  eq : M = doAll o M0
  len : M.length = M0.length
  small : ∀ x ∈ M, x < 9
  once : Once M
  each : ∀ c ∈ o, c.Step = step ∧ 0 ≤ c.Station ∧ c.Station < M0.length ∧ 0 ≤ c.Pair ∧ c.Pair < 9 ∧ s.testBit c.Pair.toNat = true ∧ M[c.Station.toNat]? = some c.Pair
  apart : o.Pairwise fun c d => c.Station ≠ d.Station
  got : ∀ p, p < k → s.testBit p = true → (p : Int) ∈ M
  keep : ∀ p : Nat, s.testBit p = true → (p : Int) ∈ M0 → (p : Int) ∈ M
  news : ∀ p : Nat, k ≤ p → (p : Int) ∈ M → (p : Int) ∈ M0
  cnt : o.length = (List.range k).countP fun p => s.testBit p && !decide ((p : Int) ∈ M0)
theorem mount_ok {s : Nat} (hs : s < 512) {M0 : List Int} (hl : M0.length ≤ 60) (hp : pop s ≤ M0.length) (hsm : ∀ x ∈ M0, x < 9) (hon : Once M0) (step : Int) :
    ∃ a : List Change × List Int, setup_mount (s : Int) step M0 = some (a.1, a.2) ∧ MI s step M0 9 a.1 a.2 := by
  have fin : ∀ a : List Change × List Int, loopT (setup_mount_l3 (s : Int) step) (0, [], M0) = some (a.1, a.2) → setup_mount (s : Int) step M0 = some (a.1, a.2) := fun a h => by
    unfold setup_mount; rw [h]; rfl
  have hstep : ∀ (k x : Nat) (a : List Change × List Int), (List.range 9)[k]? = some x → MI s step M0 k a.1 a.2 → ∃ a' : List Change × List Int, setup_mount_l3 (s : Int) step ((k : Int), a.1, a.2) = some (.inl (((k + 1 : Nat) : Int), a'.1, a'.2)) ∧ MI s step M0 (k + 1) a'.1 a'.2 := by
    intro k x a hx I
    obtain ⟨rfl, hk⟩ := range_get hx
    have h1 : decide ((x : Int) < 9) = true := by rw [decide_eq_true_eq]; omega
    have h2 : decide ((0 : Int) ≤ (x : Int)) = true := by rw [decide_eq_true_eq]; omega
    have hb := bit_ok hs hk
    have hc := contains_ok (l := a.2) (by rw [I.len]; omega) (x : Int)
    have hcnt : ∀ b : Bool, (s.testBit x && !decide ((x : Int) ∈ M0)) = b → (List.range (x + 1)).countP (fun p => s.testBit p && !decide ((p : Int) ∈ M0)) = (List.range x).countP (fun p => s.testBit p && !decide ((p : Int) ∈ M0)) + (if b then 1 else 0) := fun b hb => by
      rw [List.range_succ, List.countP_append, List.countP_singleton, hb]
    unfold setup_mount_l3
    simp only [h1, h2, if_true, hb, hc, Option.bind_some, setup_mount_k1, succ_cast x (by omega)]
    cases hbit : s.testBit x with
    | false =>
      simp only [Bool.not_false, if_true, Option.bind_some]
      have hgot : ∀ p, p < x + 1 → s.testBit p = true → (p : Int) ∈ a.2 := fun p hp hpb => by
        rcases Nat.lt_or_ge p x with q | q
        · exact I.got p q hpb
        · obtain rfl : p = x := by omega
          rw [hbit] at hpb; exact absurd hpb (by decide)
      exact ⟨a, rfl, I.eq, I.len, I.small, I.once, I.each, I.apart, hgot, I.keep, fun p hp => I.news p (by omega), by rw [hcnt false (by rw [hbit]; rfl), I.cnt]; rfl⟩
    | true =>
      by_cases hin : (x : Int) ∈ a.2
      · have ha : a.2.any (fun y => (x : Int) == y) = true := List.any_eq_true.2 ⟨_, hin, by simp⟩
        simp only [Bool.not_true, Bool.false_eq_true, if_false, ha, Option.bind_some, if_true]
        have h0 := I.news x (Nat.le_refl _) hin
        have hgot : ∀ p, p < x + 1 → s.testBit p = true → (p : Int) ∈ a.2 := fun p hp hpb => by
          rcases Nat.lt_or_ge p x with q | q
          · exact I.got p q hpb
          · obtain rfl : p = x := by omega
            exact hin
        exact ⟨a, rfl, I.eq, I.len, I.small, I.once, I.each, I.apart, hgot, I.keep, fun p hp => I.news p (by omega), by rw [hcnt false (by simp [h0]), I.cnt]; rfl⟩
      · have ha : a.2.any (fun y => (x : Int) == y) = false := by
          rw [List.any_eq_false]; intro y hy; simp; rintro rfl; exact hin hy
        have h0 : (x : Int) ∉ M0 := fun q => hin (I.keep x hbit q)
        simp only [Bool.not_true, Bool.false_eq_true, if_false, ha, Option.bind_some]
        -- the station
        have hst : ∃ (j : Nat) (y : Int), (do let r ← slices_IndexFunc_Lint_int__setup_mount_1 a.2; if decide (r < 0) then slices_IndexFunc_Lint_int__setup_mount_2 a.2 (s : Int) else some r) = some (j : Int) ∧ a.2[j]? = some y ∧ ¬ (0 ≤ y ∧ s.testBit y.toNat = true) := by
          obtain ⟨r, r1, r2⟩ := free_ok (M := a.2) (by rw [I.len]; omega)
          rcases r2 with ⟨r2, r3⟩ | ⟨j, rfl, y, y1, y2⟩
          · have hex : ∃ y ∈ a.2, s.testBit y.toNat = false := Classical.byContradiction fun hno => by
              have hall : ∀ y ∈ a.2, s.testBit y.toNat = true := fun y hy => by
                cases hq : s.testBit y.toNat with
                | true => rfl
                | false => exact absurd ⟨y, hy, hq⟩ hno
              have hnd := once_nodup I.once r3
              have hge := pop_ge (s := s) (x :: a.2.map Int.toNat) (by
                rw [List.nodup_cons]
                refine ⟨fun q => ?_, ?_⟩
                · obtain ⟨y, hy, e⟩ := List.mem_map.1 q
                  have := r3 y hy
                  exact hin (by rw [show (x : Int) = y from by omega]; exact hy)
                · rw [List.Nodup, List.pairwise_iff_getElem]
                  intro i j hi hj hij e
                  simp only [List.length_map] at hi hj
                  simp only [List.getElem_map] at e
                  have e1 := r3 _ (List.getElem_mem hi)
                  have e2 := r3 _ (List.getElem_mem hj)
                  exact (List.pairwise_iff_getElem.1 hnd) i j hi hj hij (by omega)) (fun y hy => by
                rcases List.mem_cons.1 hy with rfl | hy
                · exact ⟨hk, hbit⟩
                · obtain ⟨z, hz, rfl⟩ := List.mem_map.1 hy
                  have := I.small z hz
                  have := r3 z hz
                  exact ⟨by omega, hall z hz⟩)
              simp only [List.length_cons, List.length_map, I.len] at hge
              omega
            obtain ⟨j, j1, y, y1, y2⟩ := other_ok (M := a.2) (by rw [I.len]; omega) hs (fun y hy => ⟨r3 y hy, I.small y hy⟩) hex
            exact ⟨j, y, by simp [r1, r2, j1], y1, by rw [y2]; simp⟩
          · have : ¬ (j : Int) < 0 := by omega
            exact ⟨j, y, by simp [r1, this], y1, by omega⟩
        obtain ⟨j, y, j1, y1, y2⟩ := hst
        have hjl := lt_of_get y1
        have hmodel : ((slices_IndexFunc_Lint_int__setup_mount_1 a.2).bind fun r206 => if (decide (r206 < 0)) then ((slices_IndexFunc_Lint_int__setup_mount_2 a.2 (s : Int)).bind fun r215 => setup_mount_k2 step ((x : Int), a.1, a.2) r215) else (setup_mount_k2 step ((x : Int), a.1, a.2) r206)) = setup_mount_k2 step ((x : Int), a.1, a.2) (j : Int) := by
          cases hf : slices_IndexFunc_Lint_int__setup_mount_1 a.2 with
          | none => rw [hf] at j1; cases j1
          | some r =>
            rw [hf] at j1
            simp only [Option.bind_eq_bind, Option.bind_some] at j1 ⊢
            by_cases q : r < 0
            · simp only [q, decide_true, if_true] at j1 ⊢
              rw [j1]; rfl
            · simp only [q, decide_false, Bool.false_eq_true, if_false] at j1 ⊢
              injection j1 with j1; rw [j1]
        rw [hmodel]
        have hol : a.1.length ≤ 9 := by
          rw [I.cnt]
          have := List.countP_le_length (p := fun p : Nat => s.testBit p && !decide ((p : Int) ∈ M0)) (l := List.range x)
          rw [List.length_range] at this; omega
        unfold setup_mount_k2
        simp only [idx_of y1, Option.bind_some]
        rw [app_eq (by simp [LIM]; omega)]
        simp only [Option.bind_some, setup_mount_k1, succ_cast x (by omega), Int.toNat_natCast]
        have apartJ : ∀ c ∈ a.1, c.Station ≠ (j : Int) := fun c hc e => by
          obtain ⟨_, _, _, e3, e4, e5, e6⟩ := I.each c hc
          rw [e, Int.toNat_natCast, y1] at e6
          injection e6 with e6
          exact y2 ⟨by omega, by rw [e6]; exact e5⟩
        refine ⟨(a.1 ++ [Change.mk step (j : Int) (x : Int)], a.2.set j (x : Int)), rfl, ?_, ?_, fun z hz => ?_, once_set I.once hin, fun c hc => ?_, ?_, fun p hp hpb => ?_, fun p hpb hp0 => ?_, fun p hp hpm => ?_, ?_⟩
        · rw [doAll_snoc, ← I.eq]; simp
        · simp [I.len]
        · rcases List.mem_or_eq_of_mem_set hz with q | q
          · exact I.small z q
          · subst q; omega
        · rcases List.mem_append.1 hc with q | q
          · obtain ⟨e1, e2, e3, e4, e5, e6, e7⟩ := I.each c q
            refine ⟨e1, e2, e3, e4, e5, e6, ?_⟩
            have := apartJ c q
            rw [List.getElem?_set, if_neg (by omega)]; exact e7
          · rw [List.mem_singleton] at q
            subst q
            have := I.len
            refine ⟨rfl, by simp, by simp; omega, by simp, by simp; omega, by simpa using hbit, ?_⟩
            simp [hjl]
        · rw [List.pairwise_append]
          exact ⟨I.apart, by simp, fun c hc d hd => by rw [List.mem_singleton] at hd; subst hd; exact apartJ c hc⟩
        · rcases Nat.lt_or_ge p x with q | q
          · obtain ⟨i, hi⟩ := List.mem_iff_getElem?.1 (I.got p q hpb)
            refine List.mem_of_getElem? (i := i) ?_
            rw [List.getElem?_set, if_neg, hi]
            rintro rfl
            rw [y1] at hi; injection hi with hi; subst hi
            exact y2 ⟨by omega, by simpa using hpb⟩
          · obtain rfl : p = x := by omega
            exact List.mem_of_getElem? (i := j) (by rw [List.getElem?_set]; simp [hjl])
        · obtain ⟨i, hi⟩ := List.mem_iff_getElem?.1 (I.keep p hpb hp0)
          refine List.mem_of_getElem? (i := i) ?_
          rw [List.getElem?_set, if_neg, hi]
          rintro rfl
          rw [y1] at hi; injection hi with hi; subst hi
          exact y2 ⟨by omega, by simpa using hpb⟩
        · rcases List.mem_or_eq_of_mem_set hpm with q | q
          · exact I.news p (by omega) q
          · omega
        · rw [hcnt true (by simp [hbit, h0]), ← I.cnt]; simp
  obtain ⟨a, q1, q2⟩ := loop_rel (List.range 9) (fun k (a : List Change × List Int) => ((k : Int), a.1, a.2)) (setup_mount_l3 (s : Int) step) (fun a => (a.1, a.2)) (fun k a => MI s step M0 k a.1 a.2) ([], M0)
    ⟨rfl, rfl, hsm, hon, by simp, by simp, fun p hp => absurd hp (by omega), fun _ _ h => h, fun _ _ h => h, rfl⟩ hstep (fun a _ => by unfold setup_mount_l3; simp)
  exact ⟨a, fin a q1, q2⟩
end Go.SM
