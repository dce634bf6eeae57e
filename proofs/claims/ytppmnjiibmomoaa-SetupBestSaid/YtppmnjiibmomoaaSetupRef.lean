/- The document's answers on sets, needs and windows. -/
import Derived.Test.YtppmnjiibmomoaaSetupKnown
set_option linter.unusedVariables false
set_option linter.unusedSimpArgs false
set_option linter.unusedSectionVars false
namespace Go.SM
open Go Go.VI
/-- A loop that asks something of each element of a list, counting from o on. -/
theorem loop_all_off {α R : Type} (o : Nat) (l : List α) (body : Int → Option (Int ⊕ R)) (q : α → Bool) (no yes : R) (step : ∀ (k : Nat) (x : α), l[k]? = some x → body ((o + k : Nat) : Int) = if q x then some (.inl ((o + k + 1 : Nat) : Int)) else some (.inr no)) (fin : body ((o + l.length : Nat) : Int) = some (.inr yes)) :
    loopT body (o : Int) = some (if l.all q then yes else no) := by
  have key : ∀ (n k : Nat), k + n = l.length → loopT body ((o + k : Nat) : Int) = some (if (l.drop k).all q then yes else no) := by
    intro n
    induction n with
    | zero =>
      intro k h; obtain rfl : k = l.length := by omega
      rw [List.drop_length, loop_out fin]; rfl
    | succ n ih =>
      intro k h
      have hk : k < l.length := by omega
      have hx : l[k]? = some l[k] := by simp
      have e : l.drop k = l[k] :: l.drop (k + 1) := List.drop_eq_getElem_cons hk
      have hb := step k l[k] hx
      by_cases hq : q l[k] = true
      · rw [if_pos hq] at hb
        rw [loop_in hb, show o + k + 1 = o + (k + 1) from by omega, ih (k + 1) (by omega), e, List.all_cons, hq, Bool.true_and]
      · rw [if_neg hq] at hb
        rw [loop_out hb, e, List.all_cons, Bool.eq_false_iff.2 hq, Bool.false_and]; rfl
  have := key l.length 0 (by omega)
  simpa using this
theorem within_ok (n lo hi : Int) : sheetmetalref05_within n lo hi = some (decide (lo ≤ n ∧ n ≤ hi)) := by
  unfold sheetmetalref05_within
  by_cases h1 : n ≥ lo
  · have h1' : lo ≤ n := h1
    by_cases h2 : n ≤ hi <;> simp [h1', h2]
  · have h1' : ¬ lo ≤ n := h1
    simp [h1']
theorem rIsSet_ok {l : List Int} (h : l.length ≤ 60) : sheetmetalref05_isSet l = some (isSetB l) := by
  unfold sheetmetalref05_isSet
  rw [loop_all (List.range l.length) (sheetmetalref05_isSet_l1 l) (setAt l) (.inl ()) (.inr ()) (fun k x hx => ?step) ?fin]
  · unfold isSetB; cases (List.range l.length).all (setAt l) <;> rfl
  case step =>
    obtain ⟨rfl, hk⟩ := range_get hx
    have h1 : decide ((x : Int) < (l.length : Int)) = true := by simp [hk]
    have hg : l[x]? = some l[x] := by simp
    unfold sheetmetalref05_isSet_l1 setAt
    simp only [h1, if_true, idx_of hg, Option.bind_some, hg, succ_cast x (by omega), within_ok]
    generalize l[x] = y
    by_cases q3 : 0 ≤ y ∧ y ≤ 8
    · have q4 : 0 ≤ y ∧ y < 9 := by omega
      cases x with
      | zero => simp [q3, q4]
      | succ j =>
        have hj : l[j]? = some l[j] := by simp
        have hs : isub ((j + 1 : Nat) : Int) 1 = (j : Int) := by rw [isub_eq (by omega) (by omega)]; omega
        have h0 : decide (((j + 1 : Nat) : Int) > 0) = true := by rw [decide_eq_true_eq]; omega
        simp only [q3, q4, and_self, decide_true, if_true, h0, hs, idx_of hj, hj, Option.bind_some]
        by_cases q5 : y ≤ l[j]
        · have : ¬ l[j] < y := by omega
          simp [q5, this]
        · have : l[j] < y := by omega
          simp [q5, this]
    · have q4 : ¬ (0 ≤ y ∧ y < 9) := by omega
      simp [q3, q4]
  case fin => simp [sheetmetalref05_isSet_l1]
theorem rValidate_ok {needs : List (List Int)} (h : Sz needs) : sheetmetalref05_Validate needs = some (validCode needs) := by
  unfold sheetmetalref05_Validate validCode
  by_cases h24 : needs.length > 24
  · have : (needs.length : Int) > 24 := by omega
    simp [h24, this]
  · have : ¬ (needs.length : Int) > 24 := by omega
    simp only [this, decide_false, Bool.false_eq_true, if_false, h24]
    rw [loop_all needs (sheetmetalref05_Validate_l1 needs) (fun l => !l.isEmpty && isSetB l) (.inl ()) (.inr ()) (fun k x hx => ?step) ?fin]
    · cases needs.all (fun l => !l.isEmpty && isSetB l) <;> rfl
    case step =>
      have hk := lt_of_get hx
      have h1 : decide ((k : Int) < (needs.length : Int)) = true := by simp [hk]
      have hl := h.1
      unfold sheetmetalref05_Validate_l1
      simp only [h1, if_true, idx_of hx, Option.bind_some, rIsSet_ok (h.2 x (List.mem_of_getElem? hx)), succ_cast k (by omega)]
      cases x with
      | nil => simp
      | cons y ys =>
        have : (((y :: ys).length : Int) == 0) = false := by rw [beq_eq_false_iff_ne]; simp; omega
        simp only [this, Bool.false_eq_true, if_false, Option.bind_some]
        cases isSetB (y :: ys) <;> simp
    case fin => simp [sheetmetalref05_Validate_l1]
theorem rCheck_ok {needs : List (List Int)} (h : Sz needs) (st : Int) : sheetmetalref05_Check0 needs st = some (checkCode needs st) := by
  unfold sheetmetalref05_Check0 checkCode
  simp only [rValidate_ok h, Option.bind_some, within_ok]
  by_cases h0 : validCode needs = 0
  · simp only [h0, bne_self_eq_false, Bool.false_eq_true, if_false, ne_eq, not_true_eq_false]
    by_cases h1 : 1 ≤ st ∧ st ≤ 3 <;> simp [h1]
  · simp [h0]
def winB (needs : List (List Int)) (w : Window) : Bool := decide (0 ≤ w.From ∧ w.From ≤ w.To ∧ w.To < needs.length)
theorem valid_ok (needs : List (List Int)) (w : Window) : setup_validWindow needs w = some (winB needs w) := by
  unfold setup_validWindow winB
  by_cases h1 : w.From ≥ 0
  · have h1' : 0 ≤ w.From := h1
    by_cases h2 : w.From ≤ w.To <;> simp [h1', h2]
  · have h1' : ¬ 0 ≤ w.From := h1
    simp [h1']
theorem windowIn_ok {needs : List (List Int)} (h : Sz needs) (w : Window) : sheetmetalref05_windowIn needs w = some (winB needs w) := by
  unfold sheetmetalref05_windowIn winB
  have hl := h.1
  simp only [within_ok, Option.bind_some, isub_eq (show -9223372036854775808 ≤ (needs.length : Int) - 1 by omega) (by omega)]
  by_cases h1 : 0 ≤ w.From ∧ w.From ≤ w.To
  · simp only [h1, and_self, decide_true, if_true, Option.bind_some, true_and]
    congr 1
    rw [decide_eq_decide]
    omega
  · have : ¬ (0 ≤ w.From ∧ w.From ≤ w.To ∧ w.To < needs.length) := fun q => h1 ⟨q.1, q.2.1⟩
    simp [h1, this]
theorem count_all : ((List.range 512).all fun n => decide (iterT sheetmetalref05_count_l1 12 ((n : Int), 0) = some (pop n : Int))) = true := by decide +kernel
theorem count_ok {n : Nat} (h : n < 512) : sheetmetalref05_count (n : Int) = some (pop n : Int) := by
  have := of_decide_eq_true (List.all_eq_true.1 count_all n (List.mem_range.2 h))
  unfold sheetmetalref05_count
  rw [loopT_iff.2 ⟨12, this⟩]; rfl
theorem u64_nat {x : Int} (hx : 0 ≤ x ∧ x < 9) : IntKind.wrap .u64 x = x := by
  obtain ⟨n, rfl⟩ := Int.eq_ofNat_of_zero_le hx.1
  have : n < 9 := by omega
  revert this
  exact (by decide : ∀ n : Nat, n < 9 → IntKind.wrap .u64 (n : Int) = n) n
theorem rBits_ok {l : List Int} (hl : Small l) (hlen : l.length ≤ 60) : sheetmetalref05_bits l = some (toB l : Int) := by
  unfold sheetmetalref05_bits
  have := (loop_acc l (fun (a : Nat) x => a ||| 2 ^ x.toNat) (fun k a => ((a : Int), (k : Int))) (sheetmetalref05_bits_l1 l) (fun a => (a : Int)) (fun _ a => a < 512) 0 (by omega) (fun k x a hx ha => ?_) (fun a ha => ?_)).1
  · rw [show ((0 : Int), (0 : Int)) = ((((0 : Nat) : Int)), ((0 : Nat) : Int)) from rfl, this]; rfl
  · have hk := lt_of_get hx
    have hm := hl x (List.mem_of_getElem? hx)
    have h1 : decide ((k : Int) < (l.length : Int)) = true := by simp [hk]
    have h2 : decide (0 ≤ x) = true := by simp [hm.1]
    unfold sheetmetalref05_bits_l1
    simp only [h1, if_true, idx_of hx, Option.bind_some, u64_nat hm, h2]
    rw [pow_nat hm, kor_nat ha (Nat.pow_lt_pow_right (n := 9) (by omega) (by omega)), succ_cast k (by omega)]
    exact ⟨rfl, or_pow_lt ha hm⟩
  · unfold sheetmetalref05_bits_l1
    simp
/-- the needs of a window -/
def win (needs : List (List Int)) (f t : Nat) : List (List Int) := (needs.take (t + 1)).drop f
theorem win_get {needs : List (List Int)} {f t k : Nat} {x : List Int} (h : (win needs f t)[k]? = some x) : needs[f + k]? = some x ∧ f + k ≤ t := by
  unfold win at h
  rw [List.getElem?_drop, List.getElem?_take] at h
  split at h
  · exact ⟨h, by omega⟩
  · cases h
theorem win_len {needs : List (List Int)} {f t : Nat} (h : f ≤ t) (ht : t < needs.length) : (win needs f t).length = t + 1 - f := by
  unfold win; simp; omega
def AllSmall (needs : List (List Int)) : Prop := ∀ l ∈ needs, Small l ∧ l.length ≤ 60
theorem rServes_ok {needs : List (List Int)} (hs : AllSmall needs) (hlen : needs.length ≤ 60) {f t s : Nat} (hft : f ≤ t) (ht : t < needs.length) (h5 : s < 512) :
    sheetmetalref05_serves needs (f : Int) (t : Int) (s : Int) = some ((win needs f t).all (hit s)) := by
  unfold sheetmetalref05_serves
  rw [loop_all_off f (win needs f t) (sheetmetalref05_serves_l1 needs (t : Int) (s : Int)) (hit s) (.inl ()) (.inr ()) (fun k x hx => ?step) ?fin]
  · cases (win needs f t).all (hit s) <;> rfl
  case step =>
    obtain ⟨hg, hle⟩ := win_get hx
    obtain ⟨q1, q2⟩ := hs x (List.mem_of_getElem? hg)
    have h1 : decide (((f + k : Nat) : Int) ≤ (t : Int)) = true := by rw [decide_eq_true_eq]; omega
    have hcomm : kand .i64 (toB x : Int) (s : Int) = kand .i64 (s : Int) (toB x : Int) := by rw [kand_nat (toB_lt q1) h5, kand_nat h5 (toB_lt q1), Nat.and_comm]
    unfold sheetmetalref05_serves_l1
    simp only [h1, if_true, idx_of hg, Option.bind_some, rBits_ok q1 q2, hcomm, kand_hit h5 q1, succ_cast (f + k) (by omega)]
    cases hit s x <;> rfl
  case fin =>
    rw [win_len hft ht]
    have h1 : decide (((f + (t + 1 - f) : Nat) : Int) ≤ (t : Int)) = false := by rw [decide_eq_false_iff_not]; omega
    unfold sheetmetalref05_serves_l1
    simp only [h1, Bool.false_eq_true, if_false]
/-- no set that fits serves the window -/
def blockedB (needs : List (List Int)) (st : Int) (f t : Nat) : Bool := !(mnt st).any (fun s => (win needs f t).all (hit s))
theorem blocked_ok {needs : List (List Int)} (hs : AllSmall needs) (hlen : needs.length ≤ 60) (st : Int) {f t : Nat} (hft : f ≤ t) (ht : t < needs.length) :
    setup_blocked needs st ⟨(f : Int), (t : Int)⟩ = some (blockedB needs st f t) := by
  unfold setup_blocked blockedB
  rw [mounts_ok]
  simp only [Option.bind_some]
  have hslc : slc needs (f : Int) (iadd (t : Int) 1) = some (win needs f t) := by
    rw [succ_cast t (by omega)]
    unfold slc
    rw [if_pos (by omega)]; rfl
  rw [loop_any (mnt st) (setup_blocked_l2 needs ⟨(f : Int), (t : Int)⟩ ((mnt st).map fun (n : Nat) => (n : Int))) (fun s => (win needs f t).all (hit s)) (.inr ()) (.inl ()) (fun k s hx => ?step) ?fin]
  · cases (mnt st).any (fun s => (win needs f t).all (hit s)) <;> rfl
  case step =>
    have hk := lt_of_get hx
    have hml : (mnt st).length ≤ 512 := by
      have := List.length_filter_le (fun n => decide ((pop n : Int) ≤ st)) (List.range 512)
      simpa [mnt] using this
    have h5 := (mem_mnt.1 (List.mem_of_getElem? hx)).1
    have h1 : decide ((k : Int) < (((mnt st).map fun (n : Nat) => (n : Int)).length : Int)) = true := by simp [hk]
    have h2 : idx ((mnt st).map fun (n : Nat) => (n : Int)) (k : Int) = some (s : Int) := idx_of (by rw [List.getElem?_map, hx]; rfl)
    unfold setup_blocked_l2
    simp only [h1, if_true, h2, Option.bind_some, hslc]
    rw [loop_all (win needs f t) (setup_blocked_l1 (s : Int) (win needs f t)) (hit s) (.inl ()) (.inr ()) (fun j x hj => ?step2) ?fin2]
    · simp only [Option.bind_some, succ_cast k (by omega)]
      cases (win needs f t).all (hit s) <;> rfl
    case step2 =>
      obtain ⟨hg, hle⟩ := win_get hj
      obtain ⟨q1, q2⟩ := hs x (List.mem_of_getElem? hg)
      have h1 : decide ((j : Int) < ((win needs f t).length : Int)) = true := by simp [lt_of_get hj]
      unfold setup_blocked_l1
      simp only [h1, if_true, idx_of hj, Option.bind_some, bitsOf_ok q1 q2, kand_hit h5 q1, succ_cast j (by omega)]
      cases hit s x <;> rfl
    case fin2 => simp [setup_blocked_l1]
  case fin => simp [setup_blocked_l2]
set_option maxRecDepth 20000 in
theorem rBlocked_ok {needs : List (List Int)} (hs : AllSmall needs) (hlen : needs.length ≤ 60) (st : Int) {f t : Nat} (hft : f ≤ t) (ht : t < needs.length) :
    sheetmetalref05_blocked needs st (f : Int) (t : Int) = some (blockedB needs st f t) := by
  unfold sheetmetalref05_blocked blockedB
  rw [loop_any (List.range 512) (sheetmetalref05_blocked_l1 needs st (f : Int) (t : Int)) (fun s => decide ((pop s : Int) ≤ st) && (win needs f t).all (hit s)) (.inr ()) (.inl ()) (fun k s hx => ?step) ?fin]
  · have : (mnt st).any (fun s => (win needs f t).all (hit s)) = (List.range 512).any (fun s => decide ((pop s : Int) ≤ st) && (win needs f t).all (hit s)) := by
      unfold mnt; rw [List.any_filter]
    rw [this]
    cases (List.range 512).any (fun s => decide ((pop s : Int) ≤ st) && (win needs f t).all (hit s)) <;> rfl
  case step =>
    obtain ⟨rfl, hk⟩ := range_get hx
    have h1 : decide ((s : Int) < 512) = true := by rw [decide_eq_true_eq]; omega
    unfold sheetmetalref05_blocked_l1
    simp only [h1, if_true, count_ok hk, Option.bind_some, rServes_ok hs hlen hft ht hk, succ_cast s (by omega)]
    by_cases hp : (pop s : Int) ≤ st
    · simp only [hp, decide_true, if_true, Bool.true_and, Option.bind_some]
    · simp [hp]
  case fin => simp [sheetmetalref05_blocked_l1]
end Go.SM
