/- Which pairs are mounted at a step. -/
import Derived.Test.YtppmnjiibmomoaaSeMB
import Derived.Test.YtppmnjiibmomoaaSetupLawD
set_option linter.unusedVariables false
set_option linter.unusedSimpArgs false
set_option linter.unusedSectionVars false
namespace Go.SM
open Go Go.VI
theorem repeat_ok {st : Int} (h1 : 1 ≤ st) (h3 : st ≤ 3) : slices_Repeat_Lint_int [-1] st = some (List.replicate st.toNat (-1)) := by
  have key : ∀ n : Nat, n = 1 ∨ n = 2 ∨ n = 3 → slices_Repeat_Lint_int [-1] (n : Int) = some (List.replicate n (-1)) := by
    intro n hn
    have lp : ∀ (s : Int × List Int) (r : List Int), iterT slices_Repeat_Lint_int_l1 5 s = some r → loopT slices_Repeat_Lint_int_l1 s = some r := fun s r h => loopT_iff.2 ⟨5, h⟩
    rcases hn with rfl | rfl | rfl
    · have h := lp (1, [-1]) [-1] (by decide +kernel)
      unfold slices_Repeat_Lint_int
      have e1 : bits_Mul (IntKind.wrap .u64 (([-1] : List Int).length : Int)) (IntKind.wrap .u64 ((1 : Nat) : Int)) = some (0, 1) := by decide +kernel
      have e2 : mk (IntKind.wrap .i64 1) (0 : Int) = some [0] := by decide +kernel
      simp only [e1, Option.bind_some, e2]
      exact congrArg (fun o => o.bind fun x => some x) h
    · have h := lp (1, [-1, 0]) [-1, -1] (by decide +kernel)
      unfold slices_Repeat_Lint_int
      have e1 : bits_Mul (IntKind.wrap .u64 (([-1] : List Int).length : Int)) (IntKind.wrap .u64 ((2 : Nat) : Int)) = some (0, 2) := by decide +kernel
      have e2 : mk (IntKind.wrap .i64 2) (0 : Int) = some [0, 0] := by decide +kernel
      simp only [e1, Option.bind_some, e2]
      exact congrArg (fun o => o.bind fun x => some x) h
    · have h := lp (1, [-1, 0, 0]) [-1, -1, -1] (by decide +kernel)
      unfold slices_Repeat_Lint_int
      have e1 : bits_Mul (IntKind.wrap .u64 (([-1] : List Int).length : Int)) (IntKind.wrap .u64 ((3 : Nat) : Int)) = some (0, 3) := by decide +kernel
      have e2 : mk (IntKind.wrap .i64 3) (0 : Int) = some [0, 0, 0] := by decide +kernel
      simp only [e1, Option.bind_some, e2]
      exact congrArg (fun o => o.bind fun x => some x) h
  have := key st.toNat (by omega)
  rwa [Int.toNat_of_nonneg (by omega)] at this
/-- a change at its place -/
def chOk (n : Nat) (st : Int) (c : Change) : Bool := decide (0 ≤ c.Step ∧ c.Step < n ∧ 0 ≤ c.Station ∧ c.Station < st ∧ 0 ≤ c.Pair ∧ c.Pair < 9)
def sameB (c d : Change) : Bool := d.Step == c.Step && d.Station == c.Station
/-- what inOrder asks at change k -/
def ioAt (n : Nat) (st : Int) (l : List Change) (k : Nat) : Bool := match l[k]? with
  | none => true
  | some c => chOk n st c && (match k with | 0 => true | j + 1 => (match l[j]? with | some p => decide (p.Step ≤ c.Step) | none => true)) && !(l.take k).any (sameB c)
def inOrdB (n : Nat) (st : Int) (l : List Change) : Bool := (List.range l.length).all (ioAt n st l)
theorem contains_same {l : List Change} (h : l.length ≤ 1000) (c : Change) : slices_ContainsFunc_Lapi_Change_api_Change__setup_inOrder_1 l c.Step c.Station c.Pair = some (l.any (sameB c)) := by
  unfold slices_ContainsFunc_Lapi_Change_api_Change__setup_inOrder_1 slices_IndexFunc_Lapi_Change_api_Change__setup_inOrder_1
  obtain ⟨r, h1, h2⟩ := loop_find l (slices_IndexFunc_Lapi_Change_api_Change__setup_inOrder_1_l1 l c.Step c.Station c.Pair) (sameB c) (fun k => .inl (k : Int)) (.inr ()) (fun k x hx => by
    have h1 : decide ((k : Int) < (l.length : Int)) = true := by simp [lt_of_get hx]
    have := lt_of_get hx
    unfold slices_IndexFunc_Lapi_Change_api_Change__setup_inOrder_1_l1 setup_inOrder_1 sameB
    simp only [h1, if_true, idx_of hx, Option.bind_some, succ_cast k (by omega)]
    cases hq : x.Step == c.Step <;> simp) (by simp [slices_IndexFunc_Lapi_Change_api_Change__setup_inOrder_1_l1])
  rw [h1]
  rcases h2 with ⟨a, k, x, _, _, rfl⟩ | ⟨a, rfl⟩
  · simp only [Option.bind_some, a]
    have : decide ((k : Int) ≥ 0) = true := by rw [decide_eq_true_eq]; omega
    rw [this]
  · simp only [Option.bind_some, a]
    rfl
theorem inOrder_ok {needs : List (List Int)} (hn : needs.length ≤ 60) (st : Int) {l : List Change} (hl : l.length ≤ 100) : setup_inOrder needs st l = some (inOrdB needs.length st l) := by
  unfold setup_inOrder
  rw [loop_all (List.range l.length) (setup_inOrder_l1 needs st l) (ioAt needs.length st l) (.inl ()) (.inr ()) (fun k x hx => ?step) ?fin]
  · unfold inOrdB; cases (List.range l.length).all (ioAt needs.length st l) <;> rfl
  case step =>
    obtain ⟨rfl, hk⟩ := range_get hx
    have h1 : decide ((x : Int) < (l.length : Int)) = true := by simp [hk]
    have hg : l[x]? = some l[x] := by simp
    have hslc : slc l 0 (x : Int) = some (l.take x) := by
      unfold slc; rw [if_pos (by omega)]; simp
    unfold setup_inOrder_l1 ioAt
    simp only [h1, if_true, idx_of hg, Option.bind_some, hg, succ_cast x (by omega), hslc, contains_same (l := l.take x) (by simp; omega)]
    generalize l[x] = c
    by_cases hc : 0 ≤ c.Step ∧ c.Step < needs.length ∧ 0 ≤ c.Station ∧ c.Station < st ∧ 0 ≤ c.Pair ∧ c.Pair < 9
    · have ho : chOk needs.length st c = true := by unfold chOk; simp only [hc, and_self, decide_true]
      have n1 : decide (c.Step < 0) = false := by rw [decide_eq_false_iff_not]; omega
      have n2 : decide (c.Step ≥ (needs.length : Int)) = false := by rw [decide_eq_false_iff_not]; omega
      have n3 : decide (c.Station < 0) = false := by rw [decide_eq_false_iff_not]; omega
      have n4 : decide (c.Station ≥ st) = false := by rw [decide_eq_false_iff_not]; omega
      have n5 : decide (c.Pair < 0) = false := by rw [decide_eq_false_iff_not]; omega
      have n6 : decide (c.Pair ≥ 9) = false := by rw [decide_eq_false_iff_not]; omega
      simp only [n1, n2, n3, n4, n5, n6, ho, Bool.false_eq_true, if_false, Option.bind_some, Bool.true_and]
      cases x with
      | zero => simp
      | succ j =>
        have hj : l[j]? = some l[j] := by simp
        have hs : isub ((j + 1 : Nat) : Int) 1 = (j : Int) := by rw [isub_eq (by omega) (by omega)]; omega
        have h0 : decide (((j + 1 : Nat) : Int) > 0) = true := by rw [decide_eq_true_eq]; omega
        simp only [h0, if_true, hs, idx_of hj, hj, Option.bind_some]
        by_cases q : l[j].Step > c.Step
        · have : ¬ l[j].Step ≤ c.Step := by omega
          simp [q, this]
        · have : l[j].Step ≤ c.Step := by omega
          simp only [q, this, decide_false, decide_true, Bool.false_eq_true, if_false, Bool.true_and]
          cases (l.take (j + 1)).any (sameB c) <;> rfl
    · have ho : chOk needs.length st c = false := by unfold chOk; rw [decide_eq_false_iff_not]; exact hc
      simp only [ho, Bool.false_and, Bool.false_eq_true, if_false]
      have : (if decide (c.Step < 0) then some true else if decide (c.Step ≥ (needs.length : Int)) then some true else if decide (c.Station < 0) then some true else if decide (c.Station ≥ st) then some true else if decide (c.Pair < 0) then some true else some (decide (c.Pair ≥ 9))) = some true := by
        simp only [decide_eq_true_eq]
        split
        · rfl
        split
        · rfl
        split
        · rfl
        split
        · rfl
        split
        · rfl
        · congr 1; rw [decide_eq_true_eq]; omega
      simp only [this, Option.bind_some, if_true]
  case fin => simp [setup_inOrder_l1]
/-- what the document's ordered asks at change k -/
def roAt (n : Nat) (st : Int) (l : List Change) (k : Nat) : Bool := match l[k]? with
  | none => true
  | some c => chOk n st c && !(l.take k).any (fun d => decide (d.Step > c.Step) || sameB c d)
theorem rOrdered_ok {needs : List (List Int)} (hn : needs.length ≤ 60) {st : Int} (h1 : 1 ≤ st) (h3 : st ≤ 3) {l : List Change} (hl : l.length ≤ 100) : sheetmetalref05_ordered needs st l = some ((List.range l.length).all (roAt needs.length st l)) := by
  unfold sheetmetalref05_ordered
  rw [loop_all (List.range l.length) (sheetmetalref05_ordered_l2 needs st l) (roAt needs.length st l) (.inl ()) (.inr ()) (fun k x hx => ?step) ?fin]
  · cases (List.range l.length).all (roAt needs.length st l) <;> rfl
  case step =>
    obtain ⟨rfl, hk⟩ := range_get hx
    have h1 : decide ((x : Int) < (l.length : Int)) = true := by simp [hk]
    have hg : l[x]? = some l[x] := by simp
    have e1 : isub (needs.length : Int) 1 = (needs.length : Int) - 1 := isub_eq (by omega) (by omega)
    have e2 : isub st 1 = st - 1 := isub_eq (by omega) (by omega)
    unfold sheetmetalref05_ordered_l2 roAt
    simp only [h1, if_true, idx_of hg, Option.bind_some, hg, within_ok, e1, e2]
    generalize l[x] = c
    have hinner : loopT (sheetmetalref05_ordered_l1 l (x : Int) c) 0 = some (if (l.take x).any (fun d => decide (d.Step > c.Step) || sameB c d) then .inl () else .inr ()) := by
      rw [loop_any (l.take x) (sheetmetalref05_ordered_l1 l (x : Int) c) (fun d => decide (d.Step > c.Step) || sameB c d) (.inr ()) (.inl ()) (fun j d hd => ?s1) ?f1]
      case s1 =>
        rw [List.getElem?_take] at hd
        split at hd
        case isFalse => cases hd
        rename_i hj
        have h2 : decide ((j : Int) < (x : Int)) = true := by simp [hj]
        unfold sheetmetalref05_ordered_l1 sameB
        simp only [h2, if_true, idx_of hd, Option.bind_some, succ_cast j (by omega)]
        by_cases q : d.Step > c.Step
        · simp [q]
        · simp only [q, decide_false, Bool.false_eq_true, if_false, Bool.false_or]
          cases d.Step == c.Step with
          | false => simp
          | true => cases d.Station == c.Station <;> simp
      case f1 =>
        have : (l.take x).length = x := by simp; omega
        rw [this]
        simp [sheetmetalref05_ordered_l1]
    by_cases hc : 0 ≤ c.Step ∧ c.Step < needs.length ∧ 0 ≤ c.Station ∧ c.Station < st ∧ 0 ≤ c.Pair ∧ c.Pair < 9
    · have ho : chOk needs.length st c = true := by unfold chOk; simp only [hc, and_self, decide_true]
      have n1 : decide (0 ≤ c.Step ∧ c.Step ≤ (needs.length : Int) - 1) = true := by rw [decide_eq_true_eq]; omega
      have n2 : decide (0 ≤ c.Station ∧ c.Station ≤ st - 1) = true := by rw [decide_eq_true_eq]; omega
      have n3 : decide (0 ≤ c.Pair ∧ c.Pair ≤ 8) = true := by rw [decide_eq_true_eq]; omega
      simp only [n1, n2, n3, if_true, Option.bind_some, Bool.not_true, Bool.false_eq_true, if_false, hinner, ho, Bool.true_and, succ_cast x (by omega)]
      cases (l.take x).any (fun d => decide (d.Step > c.Step) || sameB c d) <;> rfl
    · have ho : chOk needs.length st c = false := by unfold chOk; rw [decide_eq_false_iff_not]; exact hc
      simp only [ho, Bool.false_and, Bool.false_eq_true, if_false]
      by_cases m1 : 0 ≤ c.Step ∧ c.Step ≤ (needs.length : Int) - 1
      · by_cases m2 : 0 ≤ c.Station ∧ c.Station ≤ st - 1
        · have m3 : ¬ (0 ≤ c.Pair ∧ c.Pair ≤ 8) := by omega
          simp [m1, m2, m3]
        · simp [m1, m2]
      · simp [m1]
  case fin => simp [sheetmetalref05_ordered_l2]
theorem ordered_same (n : Nat) (st : Int) (l : List Change) : (List.range l.length).all (roAt n st l) = inOrdB n st l := by
  rw [Bool.eq_iff_iff]
  unfold inOrdB
  rw [List.all_eq_true, List.all_eq_true]
  constructor
  · intro h k hk
    have := h k hk
    have hk' := List.mem_range.1 hk
    have hg : l[k]? = some l[k] := by simp
    unfold roAt at this
    unfold ioAt
    rw [hg] at this ⊢
    simp only [Bool.and_eq_true, Bool.not_eq_true', List.any_eq_false, Bool.or_eq_true, not_or, decide_eq_true_eq] at this ⊢
    refine ⟨⟨this.1, ?_⟩, fun d hd => (this.2 d hd).2⟩
    cases k with
    | zero => rfl
    | succ j =>
      have hj : l[j]? = some l[j] := by simp
      simp only [hj]
      have hm : l[j] ∈ l.take (j + 1) := List.mem_of_getElem? (i := j) (by rw [List.getElem?_take, if_pos (by omega)]; exact hj)
      have := (this.2 _ hm).1
      rw [decide_eq_true_eq]; omega
  · intro h
    have mono : ∀ k, k < l.length → ∀ j, j ≤ k → ∀ c d, l[k]? = some c → l[j]? = some d → d.Step ≤ c.Step := by
      intro k
      induction k with
      | zero =>
        intro _ j hj c d hc hd
        obtain rfl : j = 0 := by omega
        rw [hc] at hd; injection hd with hd; subst hd; exact Int.le_refl _
      | succ k ih =>
        intro hk j hj c d hc hd
        rcases Nat.lt_or_ge j (k + 1) with q | q
        · have hg : l[k]? = some l[k] := by simp
          have h1 := ih (by omega) j (by omega) _ d hg hd
          have h2 := h (k + 1) (List.mem_range.2 hk)
          unfold ioAt at h2
          rw [hc] at h2
          simp only [hg, Bool.and_eq_true, decide_eq_true_eq] at h2
          have := h2.1.2
          omega
        · obtain rfl : j = k + 1 := by omega
          rw [hc] at hd; injection hd with hd; subst hd; exact Int.le_refl _
    intro k hk
    have hk' := List.mem_range.1 hk
    have hg : l[k]? = some l[k] := by simp
    have := h k hk
    unfold ioAt at this
    unfold roAt
    rw [hg] at this ⊢
    simp only [Bool.and_eq_true, Bool.not_eq_true', List.any_eq_false, Bool.or_eq_true, not_or, decide_eq_true_eq] at this ⊢
    refine ⟨this.1.1, fun d hd => ⟨?_, this.2 d hd⟩⟩
    obtain ⟨j, hj⟩ := List.mem_iff_getElem?.1 hd
    rw [List.getElem?_take] at hj
    split at hj
    · have := mono k hk' j (by omega) _ _ hg hj
      omega
    · cases hj
/-- what is mounted behind the changes up to a step -/
def mtd (st : Int) (l : List Change) (step : Int) : List Int := l.foldl (fun a c => if c.Step ≤ step then a.set c.Station.toNat c.Pair else a) (List.replicate st.toNat (-1))
theorem inOrd_mem {n : Nat} {st : Int} {l : List Change} (h : inOrdB n st l = true) {c : Change} (hc : c ∈ l) : 0 ≤ c.Step ∧ c.Step < n ∧ 0 ≤ c.Station ∧ c.Station < st ∧ 0 ≤ c.Pair ∧ c.Pair < 9 := by
  obtain ⟨k, hk⟩ := List.mem_iff_getElem?.1 hc
  have := List.all_eq_true.1 h k (List.mem_range.2 (lt_of_get hk))
  unfold ioAt at this
  rw [hk] at this
  simp only [Bool.and_eq_true] at this
  exact of_decide_eq_true this.1.1
theorem mounted_ok {st : Int} (h1 : 1 ≤ st) (h3 : st ≤ 3) {l : List Change} (hl : l.length ≤ 100) (hs : ∀ c ∈ l, 0 ≤ c.Station ∧ c.Station < st) (step : Int) : setup_mounted st l step = some (mtd st l step) ∧ (mtd st l step).length = st.toNat := by
  unfold setup_mounted mtd
  rw [repeat_ok h1 h3]
  simp only [Option.bind_some]
  have := loop_acc l (fun (a : List Int) c => if c.Step ≤ step then a.set c.Station.toNat c.Pair else a) (fun k a => ((k : Int), a)) (setup_mounted_l2 l step) (fun a => a) (fun _ a => a.length = st.toNat) (List.replicate st.toNat (-1)) (by simp) (fun k x a hx ha => ?_) (fun a ha => ?_)
  · rw [show ((0 : Int), List.replicate st.toNat (-1 : Int)) = (((0 : Nat) : Int), List.replicate st.toNat (-1 : Int)) from rfl, this.1]
    exact ⟨rfl, this.2⟩
  · have h1 : decide ((k : Int) < (l.length : Int)) = true := by simp [lt_of_get hx]
    have := lt_of_get hx
    have hst := hs x (List.mem_of_getElem? hx)
    unfold setup_mounted_l2
    simp only [h1, if_true, idx_of hx, Option.bind_some]
    by_cases q : x.Step ≤ step
    · have hlt : x.Station.toNat < a.length := by omega
      have hi : idx a x.Station = some a[x.Station.toNat] := by
        unfold idx; rw [if_pos hst.1]; simp
      simp only [q, decide_true, if_true, hi, Option.bind_some, setup_mounted_k1, succ_cast k (by omega)]
      exact ⟨by first | rfl | trivial, by simpa using ha⟩
    · simp only [q, decide_false, Bool.false_eq_true, if_false, setup_mounted_k1, succ_cast k (by omega)]
      exact ⟨by first | rfl | trivial, ha⟩
  · simp [setup_mounted_l2]
/-- the pair at one station -/
def at1 (l : List Change) (step : Int) (s : Nat) : Int := l.foldl (fun a c => if c.Step ≤ step ∧ c.Station = (s : Int) then c.Pair else a) (-1)
theorem mtd_get {st : Int} {l : List Change} (hs : ∀ c ∈ l, 0 ≤ c.Station ∧ c.Station < st) (step : Int) {s : Nat} (h : s < st.toNat) : (mtd st l step)[s]? = some (at1 l step s) := by
  have key : ∀ (l : List Change) (a : List Int) (b : Int), (∀ c ∈ l, 0 ≤ c.Station ∧ c.Station < st) → a[s]? = some b → (l.foldl (fun a c => if c.Step ≤ step then a.set c.Station.toNat c.Pair else a) a)[s]? = some (l.foldl (fun a c => if c.Step ≤ step ∧ c.Station = (s : Int) then c.Pair else a) b) := by
    intro l
    induction l with
    | nil => intro a b _ h; exact h
    | cons c l ih =>
      intro a b hs hab
      rw [List.foldl_cons, List.foldl_cons]
      refine ih _ _ (fun d hd => hs d (by simp [hd])) ?_
      have hc := hs c (by simp)
      have hlt := (List.getElem?_eq_some_iff.1 hab).1
      by_cases q : c.Step ≤ step
      · rw [if_pos q, List.getElem?_set]
        by_cases e : c.Station = (s : Int)
        · rw [if_pos (by omega), if_pos (by omega), if_pos ⟨q, e⟩]
        · rw [if_neg (by omega), if_neg (fun hh => e hh.2)]; exact hab
      · rw [if_neg q, if_neg (fun hh => q hh.1)]; exact hab
  exact key l _ _ hs (by rw [List.getElem?_replicate, if_pos h])
theorem rMounted_ok {st : Int} (h1 : 1 ≤ st) (h3 : st ≤ 3) {l : List Change} (hl : l.length ≤ 100) (hs : ∀ c ∈ l, 0 ≤ c.Station ∧ c.Station < st) (step : Int) : sheetmetalref05_mounted st l step = some (mtd st l step) := by
  unfold sheetmetalref05_mounted
  have := (loop_acc (List.range st.toNat) (fun (a : List Int) s => a ++ [at1 l step s]) (fun k a => ((k : Int), a)) (sheetmetalref05_mounted_l3 st l step) (fun a => a) (fun k a => a.length = k) [] rfl (fun k s a hx ha => ?_) (fun a ha => ?_)).1
  · rw [show ((0 : Int), ([] : List Int)) = (((0 : Nat) : Int), ([] : List Int)) from rfl, this]
    simp only [Option.bind_some]
    congr 1
    have e : (List.range st.toNat).foldl (fun (a : List Int) s => a ++ [at1 l step s]) [] = (List.range st.toNat).map (at1 l step) := by
      have : ∀ (r : List Nat) (a : List Int), r.foldl (fun (a : List Int) s => a ++ [at1 l step s]) a = a ++ r.map (at1 l step) := by
        intro r
        induction r with
        | nil => intro a; simp
        | cons x r ih => intro a; rw [List.foldl_cons, ih]; simp
      simpa using this (List.range st.toNat) []
    rw [e]
    apply List.ext_getElem?
    intro i
    rcases Nat.lt_or_ge i st.toNat with q | q
    · rw [mtd_get hs step q, List.getElem?_map, List.getElem?_range q]; rfl
    · have hm := (mounted_ok h1 h3 hl hs step).2
      rw [List.getElem?_eq_none (by simpa using q), List.getElem?_eq_none (by omega)]
  · obtain ⟨rfl, hk⟩ := range_get hx
    have h1 : decide ((s : Int) < st) = true := by rw [decide_eq_true_eq]; omega
    have hin : loopT (sheetmetalref05_mounted_l2 l step ((s : Int), a)) (-1, 0) = some (at1 l step s) := by
      have := loop_accT l (fun (b : Int) c => if c.Step ≤ step ∧ c.Station = (s : Int) then c.Pair else b) (fun k b => (b, (k : Int))) (sheetmetalref05_mounted_l2 l step ((s : Int), a)) (fun b => b) (-1) (fun k c b hc => ?_) (fun b => ?_)
      · exact this
      · have h1 : decide ((k : Int) < (l.length : Int)) = true := by simp [lt_of_get hc]
        have := lt_of_get hc
        unfold sheetmetalref05_mounted_l2
        simp only [h1, if_true, idx_of hc, Option.bind_some, sheetmetalref05_mounted_k1, succ_cast k (by omega)]
        by_cases q : c.Step ≤ step
        · simp only [q, decide_true, if_true, Option.bind_some, true_and]
          by_cases e : c.Station = (s : Int)
          · simp [e]
          · have : (c.Station == (s : Int)) = false := by simp [e]
            simp [this, e]
        · simp [q]
      · simp [sheetmetalref05_mounted_l2]
    unfold sheetmetalref05_mounted_l3
    simp only [h1, if_true, hin, Option.bind_some]
    rw [app_eq (by simp [LIM]; omega)]
    simp only [Option.bind_some, succ_cast s (by omega)]
    exact ⟨by first | rfl | trivial, by simp [ha]⟩
  · have : decide (((List.range st.toNat).length : Int) < st) = false := by rw [List.length_range, decide_eq_false_iff_not]; omega
    unfold sheetmetalref05_mounted_l3
    simp only [this, Bool.false_eq_true, if_false]
theorem sameInts_self {l : List Int} (h : l.length ≤ 1000) : sheetmetalref01_SameInts l l = some true := by
  unfold sheetmetalref01_SameInts
  simp only [bne_self_eq_false, Bool.false_eq_true, if_false]
  rw [loop_all l (sheetmetalref01_SameInts_l1 l l) (fun _ => true) (.inl ()) (.inr ()) (fun k x hx => ?s) ?f]
  · simp
  case s =>
    have h1 : decide ((k : Int) < (l.length : Int)) = true := by simp [lt_of_get hx]
    have := lt_of_get hx
    unfold sheetmetalref01_SameInts_l1
    simp [h1, this, idx_of hx, succ_cast k (by omega)]
  case f => simp [sheetmetalref01_SameInts_l1]
/-- what Mounted answers -/
def mo (needs : List (List Int)) (st : Int) (l : List Change) (step : Int) : List Int × Int :=
  if checkCode needs st ≠ 0 then ([], checkCode needs st) else if inOrdB needs.length st l = false then ([], 12) else if 0 ≤ step ∧ step < needs.length then (mtd st l step, 0) else ([], 1)
theorem Mounted_ok {needs : List (List Int)} (hs : Sz needs) (st : Int) {l : List Change} (hl : l.length ≤ 100) (step : Int) : setup_Mounted needs st l step = some (mo needs st l step) ∧ sheetmetalref05_Mounted needs st l step = some (mo needs st l step) ∧ (mo needs st l step).1.length ≤ 3 := by
  unfold setup_Mounted sheetmetalref05_Mounted mo
  simp only [check_ok hs, rCheck_ok hs, Option.bind_some]
  by_cases hc : checkCode needs st = 0
  case neg => simp [hc]
  obtain ⟨_, hf, h1, h3, h24⟩ := code_zero hs hc
  have hn := hs.1
  simp only [hc, bne_self_eq_false, Bool.false_eq_true, if_false, ne_eq, not_true_eq_false, inOrder_ok hs.1 st hl, rOrdered_ok hs.1 h1 h3 hl, ordered_same, Option.bind_some]
  by_cases ho : inOrdB needs.length st l = true
  case neg => simp [ho]
  have hst : ∀ c ∈ l, 0 ≤ c.Station ∧ c.Station < st := fun c hc => by have := inOrd_mem ho hc; omega
  obtain ⟨e1, e2⟩ := mounted_ok h1 h3 hl hst step
  have e3 : isub (needs.length : Int) 1 = (needs.length : Int) - 1 := isub_eq (by omega) (by omega)
  simp only [ho, Bool.not_true, Bool.false_eq_true, if_false, within_ok, e3, Option.bind_some, e1, rMounted_ok h1 h3 hl hst step, Bool.true_eq_false]
  by_cases q : 0 ≤ step ∧ step < needs.length
  · have n1 : decide (step < 0) = false := by rw [decide_eq_false_iff_not]; omega
    have n2 : decide (step ≥ (needs.length : Int)) = false := by rw [decide_eq_false_iff_not]; omega
    have n3 : decide (0 ≤ step ∧ step ≤ (needs.length : Int) - 1) = true := by rw [decide_eq_true_eq]; omega
    rw [if_pos q]
    simp only [n1, n2, n3, Bool.false_eq_true, if_false, Option.bind_some, Bool.not_true]
    exact ⟨by first | rfl | trivial, by first | rfl | trivial, by rw [e2]; omega⟩
  · have n3 : decide (0 ≤ step ∧ step ≤ (needs.length : Int) - 1) = false := by rw [decide_eq_false_iff_not]; omega
    have : (if decide (step < 0) then some true else some (decide (step ≥ (needs.length : Int)))) = some true := by
      simp only [decide_eq_true_eq]
      split
      · rfl
      · congr 1; rw [decide_eq_true_eq]; omega
    rw [if_neg q]
    simp only [this, n3, Option.bind_some, if_true, Bool.not_false]
    exact ⟨by first | rfl | trivial, by first | rfl | trivial, by simp⟩
theorem law_SetupMounts (r : sheetmetallaw05_Rig) (l : List Change) (step : Int) : sheetmetallaw05_SetupMounts r l step = some true := by
  unfold sheetmetallaw05_SetupMounts
  simp only [Long_ok, Option.bind_some]
  cases hh : longB r.Needs with
  | true => simp [known_ok]
  | false =>
    have hs := long_sz hh
    simp only [Bool.false_eq_true, if_false, Option.bind_some]
    by_cases hl : (l.length : Int) > 100
    · simp [hl, known_ok]
    have hl' : l.length ≤ 100 := by omega
    obtain ⟨e1, e2, e3⟩ := Mounted_ok hs r.Stations hl' step
    simp only [hl, decide_false, Bool.false_eq_true, if_false, e1, e2, Option.bind_some, Validate_ok hs, rValidate_ok hs, beq_self_eq_true, if_true, sameInts_self (show (mo r.Needs r.Stations l step).1.length ≤ 1000 by omega), known_ok]
end Go.SM
