/- The laws SetupNoFewer and SetupChecks, on the models. -/
import Derived.Test.YtppmnjiibmomoaaSetupMount
set_option linter.unusedVariables false
set_option linter.unusedSimpArgs false
set_option linter.unusedSectionVars false
namespace Go.SM
open Go Go.VI
/-- the pairs of a list as a set: what is below zero is none -/
def toBn (l : List Int) : Nat := toB (l.filter fun x => decide (0 ≤ x))
def Small9 (l : List Int) : Prop := ∀ x ∈ l, x < 9
theorem small_filter {l : List Int} (h : Small9 l) : Small (l.filter fun x => decide (0 ≤ x)) := fun x hx => by
  obtain ⟨h1, h2⟩ := List.mem_filter.1 hx
  exact ⟨of_decide_eq_true h2, h x h1⟩
theorem meets_hitn {a need : List Int} (ha : Small9 a) (hn : Small need) : a.any (fun x => need.any (fun y => x == y)) = hit (toBn a) need := by
  rw [toBn, ← meets_hit (small_filter ha) hn, List.any_filter]
  rw [Bool.eq_iff_iff, List.any_eq_true, List.any_eq_true]
  constructor
  · rintro ⟨x, hx, h⟩
    refine ⟨x, hx, ?_⟩
    obtain ⟨y, hy, e⟩ := List.any_eq_true.1 h
    have : x = y := by simpa using e
    subst this
    have := hn x hy
    rw [Bool.and_eq_true]
    exact ⟨by rw [decide_eq_true_eq]; exact this.1, h⟩
  · rintro ⟨x, hx, h⟩
    rw [Bool.and_eq_true] at h
    exact ⟨x, hx, h.2⟩
theorem toBn_test (l : List Int) (i : Nat) : (toBn l).testBit i = l.any (fun x => x == (i : Int)) := by
  unfold toBn
  rw [toB_test, List.any_filter, Bool.eq_iff_iff, List.any_eq_true, List.any_eq_true]
  constructor
  · rintro ⟨x, hx, h⟩
    rw [Bool.and_eq_true, decide_eq_true_eq] at h
    have h2 : x.toNat = i := by simpa using h.2
    exact ⟨x, hx, by rw [beq_iff_eq]; omega⟩
  · rintro ⟨x, hx, h⟩
    have h2 : x = (i : Int) := by simpa using h
    exact ⟨x, hx, by rw [Bool.and_eq_true, decide_eq_true_eq]; exact ⟨by omega, by rw [beq_iff_eq]; omega⟩⟩
theorem toBn_lt {l : List Int} (h : Small9 l) : toBn l < 512 := toB_lt (small_filter h)
theorem pop_toBn (l : List Int) : pop (toBn l) ≤ l.length := Nat.le_trans pop_toB (List.length_filter_le _ _)
/-- what the document gathers of the mounted pairs -/
theorem gather {r : List Int} (h : Small9 r) (hlen : r.length ≤ 60) : loopT (sheetmetalref05_Check_l2 r) (0, 0) = some (toBn r : Int) := by
  have := (loop_acc r (fun (a : Nat) x => if 0 ≤ x then a ||| 2 ^ x.toNat else a) (fun k a => ((a : Int), (k : Int))) (sheetmetalref05_Check_l2 r) (fun a => (a : Int)) (fun _ a => a < 512) 0 (by omega) (fun k x a hx ha => ?_) (fun a ha => ?_)).1
  · rw [show ((0 : Int), (0 : Int)) = ((((0 : Nat) : Int)), ((0 : Nat) : Int)) from rfl, this]
    have e : ∀ (l : List Int) (a : Nat), l.foldl (fun (a : Nat) x => if 0 ≤ x then a ||| 2 ^ x.toNat else a) a = (l.filter fun x => decide (0 ≤ x)).foldl (fun (a : Nat) x => a ||| 2 ^ x.toNat) a := by
      intro l
      induction l with
      | nil => intro a; rfl
      | cons x l ih =>
        intro a
        rw [List.foldl_cons, ih, List.filter_cons]
        by_cases q : 0 ≤ x <;> simp [q]
    rw [e]; rfl
  · have h1 : decide ((k : Int) < (r.length : Int)) = true := by simp [lt_of_get hx]
    have := lt_of_get hx
    have h9 := h x (List.mem_of_getElem? hx)
    unfold sheetmetalref05_Check_l2
    simp only [h1, if_true, idx_of hx, Option.bind_some, sheetmetalref05_Check_k1, succ_cast k (by omega)]
    by_cases q : 0 ≤ x
    · have q' : decide (x ≥ 0) = true := by rw [decide_eq_true_eq]; exact q
      have q2 : decide (0 ≤ x) = true := by rw [decide_eq_true_eq]; exact q
      rw [if_pos q]
      simp only [q', if_true, u64_nat ⟨q, h9⟩, q2, pow_nat ⟨q, h9⟩]
      rw [kor_nat ha (Nat.pow_lt_pow_right (n := 9) (by omega) (by omega))]
      exact ⟨rfl, or_pow_lt ha ⟨q, h9⟩⟩
    · have q' : decide (x ≥ 0) = false := by rw [decide_eq_false_iff_not]; exact q
      rw [if_neg q]
      simp only [q', Bool.false_eq_true, if_false]
      exact ⟨by first | rfl | trivial, ha⟩
  · simp [sheetmetalref05_Check_l2]
theorem mtd_small {n : Nat} {st : Int} {l : List Change} (h : inOrdB n st l = true) (step : Int) : Small9 (mtd st l step) := by
  unfold mtd
  have : ∀ (l : List Change) (a : List Int), (∀ c ∈ l, c.Pair < 9) → (∀ x ∈ a, x < 9) → ∀ x ∈ l.foldl (fun a c => if c.Step ≤ step then a.set c.Station.toNat c.Pair else a) a, x < 9 := by
    intro l
    induction l with
    | nil => intro a _ ha; exact ha
    | cons c l ih =>
      intro a hl ha
      rw [List.foldl_cons]
      refine ih _ (fun d hd => hl d (by simp [hd])) fun x hx => ?_
      split at hx
      · rcases List.mem_or_eq_of_mem_set hx with q | q
        · exact ha x q
        · subst q; exact hl c (by simp)
      · exact ha x hx
  exact this l _ (fun c hc => (inOrd_mem h hc).2.2.2.2.2) (fun x hx => by have := List.eq_of_mem_replicate hx; omega)
/-- does a list serve at step i -/
def srvAt (needs : List (List Int)) (st : Int) (l : List Change) (i : Nat) : Bool := match needs[i]? with
  | some need => hit (toBn (mtd st l (i : Int))) need
  | none => true
/-- what Check answers -/
def ck (needs : List (List Int)) (st : Int) (l : List Change) : Int :=
  if checkCode needs st ≠ 0 then checkCode needs st else if inOrdB needs.length st l = false then 12 else if (List.range needs.length).all (srvAt needs st l) then 0 else 11
theorem Check_ok {needs : List (List Int)} (hs : Sz needs) (st : Int) {l : List Change} (hl : l.length ≤ 100) : setup_Check needs st l = some (ck needs st l) ∧ sheetmetalref05_Check needs st l = some (ck needs st l) := by
  unfold setup_Check sheetmetalref05_Check ck
  simp only [check_ok hs, rCheck_ok hs, Option.bind_some]
  by_cases hc : checkCode needs st = 0
  case neg => simp [hc]
  obtain ⟨_, hf, h1, h3, h24⟩ := code_zero hs hc
  have hn := hs.1
  simp only [hc, bne_self_eq_false, Bool.false_eq_true, if_false, ne_eq, not_true_eq_false, inOrder_ok hs.1 st hl, rOrdered_ok hs.1 h1 h3 hl, ordered_same, Option.bind_some]
  by_cases ho : inOrdB needs.length st l = true
  case neg => simp [ho]
  have hst : ∀ c ∈ l, 0 ≤ c.Station ∧ c.Station < st := fun c hc => by have := inOrd_mem ho hc; omega
  simp only [ho, Bool.not_true, Bool.false_eq_true, if_false, Bool.true_eq_false]
  rw [loop_all (List.range needs.length) (setup_Check_l1 needs st l) (srvAt needs st l) (.inl ()) (.inr ()) (fun k x hx => ?s1) ?f1, loop_all (List.range needs.length) (sheetmetalref05_Check_l3 needs st l) (srvAt needs st l) (.inl ()) (.inr ()) (fun k x hx => ?s2) ?f2]
  · cases (List.range needs.length).all (srvAt needs st l) <;> simp
  case s1 =>
    obtain ⟨rfl, hk⟩ := range_get hx
    have h2 : decide ((x : Int) < (needs.length : Int)) = true := by simp [hk]
    have hg : needs[x]? = some needs[x] := by simp
    obtain ⟨_, hsm, hlen⟩ := hf.2 _ (List.mem_of_getElem? hg)
    obtain ⟨e1, e2⟩ := mounted_ok h1 h3 hl hst (x : Int)
    unfold setup_Check_l1 srvAt
    simp only [h2, if_true, idx_of hg, hg, Option.bind_some, e1, meets_ok (show (mtd st l (x : Int)).length ≤ 1000 by omega) (show needs[x].length ≤ 1000 by omega), meets_hitn (mtd_small ho _) hsm, succ_cast x (by omega)]
    by_cases q : hit (toBn (mtd st l (x : Int))) needs[x] = true <;> simp [q]
  case f1 => simp [setup_Check_l1]
  case s2 =>
    obtain ⟨rfl, hk⟩ := range_get hx
    have h2 : decide ((x : Int) < (needs.length : Int)) = true := by simp [hk]
    have hg : needs[x]? = some needs[x] := by simp
    obtain ⟨e1, e2⟩ := mounted_ok h1 h3 hl hst (x : Int)
    have hw : win needs x x = [needs[x]] := by
      unfold win
      rw [take_succ hg, List.drop_append, List.drop_of_length_le (by simp; omega), List.nil_append]
      have : x - (needs.take x).length = 0 := by simp; omega
      rw [this]; rfl
    unfold sheetmetalref05_Check_l3 srvAt
    simp only [h2, if_true, hg, Option.bind_some, rMounted_ok h1 h3 hl hst (x : Int), gather (mtd_small ho _) (show (mtd st l (x : Int)).length ≤ 60 by omega), rServes_ok (fit_small hf) hs.1 (Nat.le_refl x) hk (toBn_lt (mtd_small ho _)), hw, List.all_cons, List.all_nil, Bool.and_true, succ_cast x (by omega)]
    by_cases q : hit (toBn (mtd st l (x : Int))) needs[x] = true <;> simp [q]
  case f2 => simp [sheetmetalref05_Check_l3]

/-! ### a list that serves is a way -/
/-- how many changes up to a step -/
def cnt (l : List Change) (step : Int) : Nat := l.countP fun c => decide (c.Step ≤ step)
/-- putting one pair adds one at most -/
theorem set_bits (a : List Int) (i : Nat) (x : Int) (j : Nat) (h : (toBn (a.set i x)).testBit j = true) : (toBn a).testBit j = true ∨ x = (j : Int) := by
  rw [toBn_test, List.any_eq_true] at h
  obtain ⟨y, hy, e⟩ := h
  have e : y = (j : Int) := by simpa using e
  rcases List.mem_or_eq_of_mem_set hy with q | q
  · exact .inl (by rw [toBn_test, List.any_eq_true]; exact ⟨y, q, by simp [e]⟩)
  · exact .inr (by omega)
/-- the pairs that came in between two lists are at most as many as the changes -/
theorem came (l : List Change) (p q : Change → Bool) (hpq : ∀ c ∈ l, p c = true → q c = true) (hord : l.Pairwise fun c d => q c = true → p c = false → p d = false) : ∀ a : List Int,
    ∃ js : List Nat, js.length = l.countP (fun c => q c && !p c) ∧ ∀ j, (toBn (l.foldl (fun a c => if q c then a.set c.Station.toNat c.Pair else a) a)).testBit j = true → (toBn (l.foldl (fun a c => if p c then a.set c.Station.toNat c.Pair else a) a)).testBit j = true ∨ j ∈ js := by
  -- behind the first change that is new all are new or none
  have tail : ∀ (l : List Change) (a b : List Int), (∀ j, (toBn a).testBit j = true → (toBn b).testBit j = true ∨ False) → True := fun _ _ _ _ => trivial
  have new : ∀ (l : List Change), (∀ c ∈ l, p c = false) → ∀ (a b : List Int) (js : List Nat), (∀ j, (toBn a).testBit j = true → (toBn b).testBit j = true ∨ j ∈ js) →
      ∃ ks : List Nat, ks.length = l.countP (fun c => q c && !p c) ∧ ∀ j, (toBn (l.foldl (fun a c => if q c then a.set c.Station.toNat c.Pair else a) a)).testBit j = true → (toBn b).testBit j = true ∨ j ∈ js ++ ks := by
    intro l
    induction l with
    | nil => intro _ a b js h; exact ⟨[], rfl, fun j hj => by simpa using h j hj⟩
    | cons c l ih =>
      intro hp a b js h
      have hpc := hp c (by simp)
      cases hq : q c with
      | false =>
        obtain ⟨ks, h1, h2⟩ := ih (fun d hd => hp d (by simp [hd])) a b js h
        exact ⟨ks, by rw [List.countP_cons, h1]; simp [hq], fun j hj => h2 j (by simpa [hq] using hj)⟩
      | true =>
        obtain ⟨ks, h1, h2⟩ := ih (fun d hd => hp d (by simp [hd])) (a.set c.Station.toNat c.Pair) b (js ++ [c.Pair.toNat]) (fun j hj => by
          rcases set_bits a _ _ j hj with r | r
          · rcases h j r with s | s
            · exact .inl s
            · exact .inr (List.mem_append_left _ s)
          · exact .inr (List.mem_append_right _ (by simp; omega)))
        refine ⟨c.Pair.toNat :: ks, by rw [List.countP_cons, List.length_cons, h1]; simp [hq, hpc], fun j hj => ?_⟩
        have := h2 j (by simpa [hq] using hj)
        simpa using this
  induction l with
  | nil => intro a; exact ⟨[], rfl, fun j hj => .inl hj⟩
  | cons c l ih =>
    intro a
    rw [List.pairwise_cons] at hord
    cases hp : p c with
    | true =>
      have hq := hpq c (by simp) hp
      obtain ⟨js, h1, h2⟩ := ih (fun d hd => hpq d (by simp [hd])) hord.2 (a.set c.Station.toNat c.Pair)
      exact ⟨js, by rw [List.countP_cons, h1]; simp [hp], fun j hj => by simpa [hp] using h2 j (by simpa [hq] using hj)⟩
    | false =>
      cases hq : q c with
      | false =>
        obtain ⟨js, h1, h2⟩ := ih (fun d hd => hpq d (by simp [hd])) hord.2 a
        exact ⟨js, by rw [List.countP_cons, h1]; simp [hq], fun j hj => by simpa [hp] using h2 j (by simpa [hq] using hj)⟩
      | true =>
        have hall : ∀ d ∈ l, p d = false := fun d hd => hord.1 d hd hq hp
        have hnone : ∀ (l : List Change) (a : List Int), (∀ d ∈ l, p d = false) → l.foldl (fun a c => if p c then a.set c.Station.toNat c.Pair else a) a = a := by
          intro l
          induction l with
          | nil => intro a _; rfl
          | cons d l ih => intro a h; rw [List.foldl_cons, h d (by simp)]; exact ih a fun e he => h e (by simp [he])
        obtain ⟨ks, h1, h2⟩ := new l hall (a.set c.Station.toNat c.Pair) a [c.Pair.toNat] (fun j hj => by
          rcases set_bits a _ _ j hj with r | r
          · exact .inl r
          · exact .inr (by simp; omega))
        refine ⟨c.Pair.toNat :: ks, by rw [List.countP_cons, List.length_cons, h1]; simp [hq, hp], fun j hj => ?_⟩
        have := h2 j (by simpa [hq] using hj)
        rw [List.foldl_cons, hp]
        simp only [Bool.false_eq_true, if_false]
        rw [hnone l a hall]
        simpa using this
theorem pop_le_list {s : Nat} {js : List Nat} (h : ∀ j, s.testBit j = true → j ∈ js) : pop s ≤ js.length := by
  have h1 : pop s = ((List.range 9).filter fun i => s.testBit i).length := by unfold pop; rw [List.countP_eq_length_filter]
  rw [h1]
  exact List.Nodup.length_le_of_subset (List.Pairwise.filter _ List.nodup_range) fun i hi => h i (List.mem_filter.1 hi).2
theorem inOrd_sorted {n : Nat} {st : Int} {l : List Change} (h : inOrdB n st l = true) : l.Pairwise fun c d => c.Step ≤ d.Step := by
  rw [List.pairwise_iff_getElem]
  rw [← ordered_same] at h
  intro i j hi hj hij
  have := List.all_eq_true.1 h j (List.mem_range.2 hj)
  unfold roAt at this
  have hg : l[j]? = some l[j] := by simp
  rw [hg] at this
  simp only [Bool.and_eq_true, Bool.not_eq_true', List.any_eq_false, Bool.or_eq_true, not_or, decide_eq_true_eq] at this
  have hm : l[i] ∈ l.take j := List.mem_of_getElem? (i := i) (by rw [List.getElem?_take, if_pos hij]; simp)
  have := (this.2 _ hm).1
  omega
theorem step_cost {n : Nat} {st : Int} {l : List Change} (h : inOrdB n st l = true) (i : Int) : pop (sdiff (toBn (mtd st l i)) (toBn (mtd st l (i - 1)))) + cnt l (i - 1) ≤ cnt l i := by
  have hsorted := inOrd_sorted h
  obtain ⟨js, h1, h2⟩ := came l (fun c => decide (c.Step ≤ i - 1)) (fun c => decide (c.Step ≤ i)) (fun c _ hc => by rw [decide_eq_true_eq] at hc ⊢; omega) (hsorted.imp fun hcd hq hp => by
    rw [decide_eq_true_eq] at hq
    rw [decide_eq_false_iff_not] at hp ⊢
    omega) (List.replicate st.toNat (-1))
  have e1 : ∀ s, mtd st l s = l.foldl (fun a c => if (fun c : Change => decide (c.Step ≤ s)) c then a.set c.Station.toNat c.Pair else a) (List.replicate st.toNat (-1)) := fun s => by
    unfold mtd; simp only [decide_eq_true_eq]
  have hlt := toBn_lt (mtd_small h i)
  have hp : pop (sdiff (toBn (mtd st l i)) (toBn (mtd st l (i - 1)))) ≤ js.length := pop_le_list fun j hj => by
    rw [sdiff_test hlt, Bool.and_eq_true, Bool.not_eq_true'] at hj
    rw [e1 i, e1 (i - 1)] at hj
    rcases h2 j hj.1 with q | q
    · rw [q] at hj; cases hj.2
    · exact q
  have hc : ∀ l : List Change, l.countP (fun c => decide (c.Step ≤ i) && !decide (c.Step ≤ i - 1)) + cnt l (i - 1) = cnt l i := by
    intro l
    unfold cnt
    induction l with
    | nil => rfl
    | cons c l ih =>
      simp only [List.countP_cons]
      by_cases q : c.Step ≤ i - 1
      · have : c.Step ≤ i := by omega
        simp [q, this]; omega
      · by_cases q2 : c.Step ≤ i <;> simp [q, q2] <;> omega
  have := hc l
  omega
theorem way_of {needs : List (List Int)} {st : Int} {l : List Change} (h1 : 1 ≤ st) (h3 : st ≤ 3) (hl : l.length ≤ 100) (h : inOrdB needs.length st l = true) (hsrv : (List.range needs.length).all (srvAt needs st l) = true) :
    ∃ s c, Way st needs s c ∧ c ≤ l.length := by
  have hst : ∀ c ∈ l, 0 ≤ c.Station ∧ c.Station < st := fun c hc => by have := inOrd_mem h hc; omega
  have go : ∀ k, k ≤ needs.length → ∃ c, Way st (needs.take k) (toBn (mtd st l ((k : Int) - 1))) c ∧ c ≤ cnt l ((k : Int) - 1) := by
    intro k
    induction k with
    | zero =>
      intro _
      have e : toBn (mtd st l (((0 : Nat) : Int) - 1)) = 0 := by
        have : mtd st l (((0 : Nat) : Int) - 1) = List.replicate st.toNat (-1) := by
          unfold mtd
          have : ∀ (l : List Change) (a : List Int), (∀ c ∈ l, 0 ≤ c.Step) → l.foldl (fun a c => if c.Step ≤ ((0 : Nat) : Int) - 1 then a.set c.Station.toNat c.Pair else a) a = a := by
            intro l
            induction l with
            | nil => intro a _; rfl
            | cons c l ih => intro a hc; rw [List.foldl_cons, if_neg (by have := hc c (by simp); omega)]; exact ih a fun d hd => hc d (by simp [hd])
          exact this l _ fun c hc => (inOrd_mem h hc).1
        rw [this]
        apply Nat.eq_of_testBit_eq
        intro i
        rw [toBn_test, Nat.zero_testBit, List.any_eq_false]
        intro x hx
        have := List.eq_of_mem_replicate hx
        rw [beq_iff_eq]; omega
      rw [e]
      exact ⟨0, .nil, Nat.zero_le _⟩
    | succ k ih =>
      intro hk
      obtain ⟨c, hw, hc⟩ := ih (by omega)
      have hg : needs[k]? = some needs[k] := by simp
      have hs := List.all_eq_true.1 hsrv k (List.mem_range.2 (by omega))
      unfold srvAt at hs
      rw [hg] at hs
      simp only at hs
      have e : (((k + 1 : Nat) : Int) - 1) = (k : Int) := by omega
      obtain ⟨_, e2⟩ := mounted_ok h1 h3 hl hst (k : Int)
      have hpop := pop_toBn (mtd st l (k : Int))
      rw [take_succ hg, e]
      refine ⟨_, .snoc hw (toBn_lt (mtd_small h _)) (by omega) hs, ?_⟩
      have := step_cost h (k : Int)
      omega
  obtain ⟨c, hw, hc⟩ := go needs.length (Nat.le_refl _)
  rw [List.take_length] at hw
  refine ⟨_, c, hw, Nat.le_trans hc ?_⟩
  unfold cnt
  exact List.countP_le_length
theorem law_SetupNoFewer (needs : List (List Int)) (st : Int) (l : List Change) : sheetmetallaw05_SetupNoFewer needs st l = some true := by
  unfold sheetmetallaw05_SetupNoFewer
  simp only [Long_ok, Option.bind_some]
  cases hh : longB needs with
  | true => simp [known_ok]
  | false =>
    have hs := long_sz hh
    simp only [Bool.false_eq_true, if_false]
    by_cases hl : (l.length : Int) > 100
    · simp [hl, known_ok]
    have hl' : l.length ≤ 100 := by omega
    simp only [hl, decide_false, Bool.false_eq_true, if_false, (Check_ok hs st hl').1, Option.bind_some]
    by_cases hc : ck needs st l = 0
    case neg => simp [hc, known_ok]
    have hcode : checkCode needs st = 0 := by
      unfold ck at hc
      split at hc
      · exact hc
      · rename_i h; simpa using h
    obtain ⟨_, hf, h1, h3, _⟩ := code_zero hs hcode
    rcases least_ok hs st with ⟨hc', _⟩ | ⟨_, n, hL, hn⟩
    · exact absurd hcode hc'
    have hle : n ≤ l.length := by
      unfold ck at hc
      simp only [hcode, ne_eq, not_true_eq_false, if_false] at hc
      split at hc
      · cases hc
      rename_i ho
      split at hc
      · rename_i hsrv
        obtain ⟨s, c, hw, hcl⟩ := way_of h1 h3 hl' (by simpa using ho) hsrv
        exact Nat.le_trans (hn.2 _ _ hw) hcl
      · cases hc
    have hle' : decide ((n : Int) ≤ (l.length : Int)) = true := by rw [decide_eq_true_eq]; omega
    simp only [hc, bne_self_eq_false, Bool.false_eq_true, if_false, hL, Option.bind_some, beq_self_eq_true, if_true, hle', known_ok]
theorem law_SetupChecks (needs : List (List Int)) (st : Int) (l : List Change) : sheetmetallaw05_SetupChecks needs st l = some true := by
  unfold sheetmetallaw05_SetupChecks
  simp only [Long_ok, Option.bind_some]
  cases hh : longB needs with
  | true => simp [known_ok]
  | false =>
    have hs := long_sz hh
    have hn60 := hs.1
    simp only [Bool.false_eq_true, if_false, Option.bind_some]
    by_cases hl : (l.length : Int) > 100
    · simp [hl, known_ok]
    have hl' : l.length ≤ 100 := by omega
    simp only [hl, decide_false, Bool.false_eq_true, if_false, (Check_ok hs st hl').1, (Check_ok hs st hl').2, Option.bind_some, bne_self_eq_false]
    by_cases hc : ck needs st l = 0 ∨ ck needs st l = 11
    case neg =>
      have q1 : (ck needs st l != 0) = true := by simp; exact fun e => hc (.inl e)
      have q2 : (ck needs st l != 11) = true := by simp; exact fun e => hc (.inr e)
      simp [q1, q2, known_ok]
    have hcode : checkCode needs st = 0 := by
      unfold ck at hc
      split at hc
      · rename_i hne
        exfalso
        have : checkCode needs st = 11 := by rcases hc with q | q; exact absurd q hne; exact q
        unfold checkCode validCode at this
        split at this <;> (try split at this) <;> (try split at this) <;> (try omega)
      · rename_i h; simpa using h
    have hord : inOrdB needs.length st l = true := by
      unfold ck at hc
      simp only [hcode, ne_eq, not_true_eq_false, if_false] at hc
      cases ho : inOrdB needs.length st l with
      | true => rfl
      | false => rw [if_pos ho] at hc; rcases hc with q | q <;> cases q
    obtain ⟨_, hf, h1, h3, _⟩ := code_zero hs hcode
    have hst : ∀ c ∈ l, 0 ≤ c.Station ∧ c.Station < st := fun c hc => by have := inOrd_mem hord hc; omega
    have hjoin : (if (ck needs st l != 0) then some (ck needs st l != 11) else some false) = some false := by
      rcases hc with q | q <;> simp [q]
    -- the law's own reckoning
    have hinner : ∀ (all_ : Bool) (i : Nat) (hi : i < needs.length), loopT (sheetmetallaw05_SetupChecks_l2 needs (all_, (i : Int)) (mtd st l (i : Int), 0)) (false, 0) = some ((mtd st l (i : Int)).any fun x => needs[i].any fun y => x == y) := by
      intro all_ i hi
      have hg : needs[i]? = some needs[i] := by simp
      obtain ⟨_, e2⟩ := mounted_ok h1 h3 hl' hst (i : Int)
      generalize mtd st l (i : Int) = on at e2
      have := loop_accT on (fun (b : Bool) x => b || needs[i].any fun y => x == y) (fun k b => (b, (k : Int))) (sheetmetallaw05_SetupChecks_l2 needs (all_, (i : Int)) (on, 0)) (fun b => b) false (fun k x b hx => ?_) (fun b => ?_)
      · have e : ∀ (l : List Int) (b : Bool), l.foldl (fun (b : Bool) x => b || needs[i].any fun y => x == y) b = (b || l.any fun x => needs[i].any fun y => x == y) := by
          intro l
          induction l with
          | nil => intro b; simp
          | cons x l ih => intro b; rw [List.foldl_cons, ih, List.any_cons, Bool.or_assoc]
        rw [e] at this
        simpa using this
      · have h2 : decide ((k : Int) < (on.length : Int)) = true := by simp [lt_of_get hx]
        have hk := lt_of_get hx
        have hneed := (hf.2 _ (List.mem_of_getElem? hg)).2.2
        have hin : loopT (sheetmetallaw05_SetupChecks_l1 needs (all_, (i : Int)) (on, 0) (b, (k : Int))) (b, 0) = some (b || needs[i].any fun y => x == y) := by
          have := loop_accT needs[i] (fun (b : Bool) y => b || x == y) (fun j b => (b, (j : Int))) (sheetmetallaw05_SetupChecks_l1 needs (all_, (i : Int)) (on, 0) (b, (k : Int))) (fun b => b) b (fun j y b' hy => ?_) (fun b' => ?_)
          · have e : ∀ (l : List Int) (b : Bool), l.foldl (fun (b : Bool) y => b || x == y) b = (b || l.any fun y => x == y) := by
              intro l
              induction l with
              | nil => intro b; simp
              | cons z l ih => intro b; rw [List.foldl_cons, ih, List.any_cons, Bool.or_assoc]
            rw [e] at this
            exact this
          · have h3 : decide ((j : Int) < (needs[i].length : Int)) = true := by simp [lt_of_get hy]
            have hj := lt_of_get hy
            unfold sheetmetallaw05_SetupChecks_l1
            simp only [idx_of hg, Option.bind_some, h3, if_true, idx_of hx, idx_of hy, succ_cast j (by omega)]
            cases b' <;> simp
          · unfold sheetmetallaw05_SetupChecks_l1
            simp [idx_of hg]
        unfold sheetmetallaw05_SetupChecks_l2
        simp only [h2, if_true, hin, Option.bind_some, succ_cast k (by omega)]
      · simp [sheetmetallaw05_SetupChecks_l2]
    have hloop : loopT (sheetmetallaw05_SetupChecks_l3 needs st l) (true, 0) = some (.inr ((List.range needs.length).all (srvAt needs st l))) := by
      have := loop_accT (List.range needs.length) (fun (b : Bool) i => b && srvAt needs st l i) (fun k b => (b, (k : Int))) (sheetmetallaw05_SetupChecks_l3 needs st l) (fun b => (.inr b : Unit ⊕ Bool)) true (fun k x b hx => ?_) (fun b => ?_)
      · have e : ∀ (r : List Nat) (b : Bool), r.foldl (fun (b : Bool) i => b && srvAt needs st l i) b = (b && r.all (srvAt needs st l)) := by
          intro r
          induction r with
          | nil => intro b; simp
          | cons x r ih => intro b; rw [List.foldl_cons, ih, List.all_cons, Bool.and_assoc]
        rw [e] at this
        simpa using this
      · obtain ⟨rfl, hk⟩ := range_get hx
        have h2 : decide ((x : Int) < (needs.length : Int)) = true := by simp [hk]
        have hg : needs[x]? = some needs[x] := by simp
        have hmo : mo needs st l (x : Int) = (mtd st l (x : Int), 0) := by
          unfold mo
          rw [if_neg (by simp [hcode]), if_neg (by simp [hord]), if_pos (by omega)]
        obtain ⟨_, hsm, _⟩ := hf.2 _ (List.mem_of_getElem? hg)
        unfold sheetmetallaw05_SetupChecks_l3
        simp only [h2, if_true, (Mounted_ok hs st hl' (x : Int)).1, hmo, Option.bind_some, hinner b x hk, meets_hitn (mtd_small hord _) hsm, bne_self_eq_false, Bool.false_eq_true, if_false, succ_cast x (by omega)]
        unfold srvAt
        rw [hg]
        cases b <;> simp
      · simp [sheetmetallaw05_SetupChecks_l3]
    have hck : ((List.range needs.length).all (srvAt needs st l) == (ck needs st l == 0)) = true := by
      unfold ck
      rw [if_neg (by simp [hcode]), if_neg (by simp [hord])]
      cases (List.range needs.length).all (srvAt needs st l) <;> simp
    simp only [hjoin, Option.bind_some, Bool.false_eq_true, if_false, hloop, hck, if_true, known_ok]
end Go.SM
