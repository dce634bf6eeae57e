/- The document's reckoning of the least number of changes. -/
import Derived.Test.YtppmnjiibmomoaaSeMP
import Derived.Test.YtppmnjiibmomoaaSetupPl
set_option linter.unusedVariables false
set_option linter.unusedSimpArgs false
set_option linter.unusedSectionVars false
namespace Go.SM
open Go Go.VI
theorem few_init (N : Nat) (hN : N = 512) : loopT sheetmetalref05_Fewest_l1 (0, List.replicate N 0) = some (List.replicate N 1000) := by
  have h := loop_acc (List.range N) (fun (a : List Int) k => a.set k 1000) (fun k a => ((k : Int), a)) sheetmetalref05_Fewest_l1 (fun a => a) (fun k a => a.length = N ∧ a = List.replicate k 1000 ++ List.replicate (N - k) 0) (List.replicate N 0) ⟨List.length_replicate, by simp only [List.replicate_zero, List.nil_append, Nat.sub_zero]⟩ (fun k x a hx hI => by
    obtain ⟨rfl, hk⟩ := range_get hx
    have h1 : decide ((x : Int) < 512) = true := by rw [decide_eq_true_eq]; omega
    have h2 : decide ((0 : Int) ≤ (x : Int)) = true := by rw [decide_eq_true_eq]; omega
    have hxl : x < a.length := by rw [hI.1]; exact hk
    have hg : a[x]? = some a[x] := List.getElem?_eq_getElem hxl
    unfold sheetmetalref05_Fewest_l1
    simp only [h1, h2, Bool.and_self, if_true, idx_of hg, Option.bind_some, succ_cast x (by omega), Int.toNat_natCast]
    refine ⟨by first | rfl | trivial, by rw [List.length_set]; exact hI.1, ?_⟩
    rw [hI.2, List.set_append_right _ _ (by rw [List.length_replicate]; exact Nat.le_refl _), List.length_replicate, Nat.sub_self]
    rw [show N - x = (N - (x + 1)) + 1 from by omega, List.replicate_succ, List.set_cons_zero, List.replicate_succ' (n := x), List.append_assoc]
    rfl) (fun a _ => by
      unfold sheetmetalref05_Fewest_l1
      have : ¬ (((List.range N).length : Nat) : Int) < 512 := by rw [List.length_range]; omega
      simp only [this, decide_false, Bool.false_eq_true, if_false])
  obtain ⟨h1, h2, h3⟩ := h
  rw [List.length_range] at h3
  rw [h3] at h1
  rw [Nat.sub_self, List.replicate_zero, List.append_nil] at h1
  exact h1
/-- the least cost of a way to the set s, or 1000 -/
def CostAt (st : Int) (p : List (List Int)) (s : Nat) (v : Int) : Prop := (∃ c : Nat, v = c ∧ Way st p s c ∧ ∀ c', Way st p s c' → c ≤ c') ∨ (v = 1000 ∧ ∀ c, ¬ Way st p s c)
def CostOk (st : Int) (p : List (List Int)) (C : List Int) : Prop := C.length = 512 ∧ ∀ s v, C[s]? = some v → CostAt st p s v
/-- the least over the sets below k that the step before may end with -/
def MinTo (st : Int) (p : List (List Int)) (s k : Nat) (v : Int) : Prop :=
  (v = 1000 ∧ ∀ b c, b < k → ¬ Way st p b c) ∨ (∃ b c : Nat, b < k ∧ Way st p b c ∧ v = ((c + pop (sdiff s b) : Nat) : Int)) ∧ ∀ b c : Nat, b < k → Way st p b c → v ≤ ((c + pop (sdiff s b) : Nat) : Int)
theorem cost_lt {st : Int} (hst : 0 ≤ st) {p : List (List Int)} (hp : p.length ≤ 60) {s : Nat} {v : Int} (h : CostAt st p s v) : (v < 1000 ∧ ∃ c : Nat, v = c ∧ c ≤ 540 ∧ Way st p s c ∧ ∀ c', Way st p s c' → c ≤ c') ∨ (v = 1000 ∧ ∀ c, ¬ Way st p s c) := by
  rcases h with ⟨c, rfl, hw, hm⟩ | h
  · have := (way_ok hst hw).2.2
    exact .inl ⟨by omega, c, rfl, by omega, hw, hm⟩
  · exact .inr h
theorem few_in {st : Int} (hst : 0 ≤ st) {p : List (List Int)} (hp : p.length ≤ 60) {C : List Int} (hC : CostOk st p C) (i0 : Int) {s : Nat} (hs : s < 512) (nx0 : List Int) (nx : List Int) (hl : nx.length = 512) (hv : nx[s]? = some 1000) :
    ∃ v, loopT (sheetmetalref05_Fewest_l4 (i0, C) ((s : Int), nx0)) (0, nx) = some (nx.set s v) ∧ MinTo st p s 512 v := by
  have hC5 := hC.1
  have start : ∃ v, nx = nx.set s v ∧ MinTo st p s 0 v := ⟨1000, by
      apply List.ext_getElem?
      intro i
      rw [List.getElem?_set]
      by_cases e : s = i
      · subst e; rw [if_pos rfl, if_pos (by omega), hv]
      · rw [if_neg e], .inl ⟨rfl, fun b c hb => absurd hb (by omega)⟩⟩
  have hstep : ∀ (k : Nat) (x : Int) (a : List Int), C[k]? = some x → (∃ v, a = nx.set s v ∧ MinTo st p s k v) → ∃ a', sheetmetalref05_Fewest_l4 (i0, C) ((s : Int), nx0) ((k : Int), a) = some (.inl (((k + 1 : Nat) : Int), a')) ∧ ∃ v, a' = nx.set s v ∧ MinTo st p s (k + 1) v := by
    intro k x a hx hI
    obtain ⟨v, rfl, hm⟩ := hI
    have hk : k < 512 := by have := lt_of_get hx; omega
    have h1 : decide ((k : Int) < 512) = true := by rw [decide_eq_true_eq]; omega
    have h2 : decide ((0 : Int) ≤ (k : Int)) = true := by rw [decide_eq_true_eq]; omega
    have h3 : decide ((s : Int) < 512) = true := by rw [decide_eq_true_eq]; omega
    have h4 : decide ((0 : Int) ≤ (s : Int)) = true := by rw [decide_eq_true_eq]; omega
    have hsv : (nx.set s v)[s]? = some v := by rw [List.getElem?_set]; simp; omega
    have hpl := pop_le (sdiff s k)
    unfold sheetmetalref05_Fewest_l4
    simp only [h1, h2, h3, h4, Bool.and_self, if_true, idx_of hx, Option.bind_some, kandNot_nat hs hk, count_ok (sdiff_lt (b := k) hs), idx_of hsv, sheetmetalref05_Fewest_k3, succ_cast k (by omega), Int.toNat_natCast]
    rcases cost_lt hst hp (hC.2 k x hx) with ⟨hlt, c, rfl, hc540, hw, hcm⟩ | ⟨rfl, hno⟩
    · have hadd : iadd (c : Int) (pop (sdiff s k) : Int) = ((c + pop (sdiff s k) : Nat) : Int) := by rw [iadd_eq (by omega) (by omega)]; omega
      simp only [hlt, decide_true, if_true, hadd, Option.bind_some]
      by_cases hv2 : ((c + pop (sdiff s k) : Nat) : Int) < v
      · simp only [hv2, decide_true, if_true]
        refine ⟨_, rfl, _, by rw [List.set_set], .inr ⟨⟨k, c, by omega, hw, rfl⟩, fun b c' hb hw' => ?_⟩⟩
        rcases Nat.lt_or_ge b k with q | q
        · rcases hm with ⟨_, hm⟩ | ⟨_, hm⟩
          · exact absurd hw' (hm b c' q)
          · have := hm b c' q hw'; omega
        · obtain rfl : b = k := by omega
          have := hcm c' hw'; omega
      · simp only [hv2, decide_false, Bool.false_eq_true, if_false]
        refine ⟨_, rfl, v, rfl, ?_⟩
        rcases hm with ⟨rfl, _⟩ | ⟨⟨b, cb, q1, q2, q3⟩, hm⟩
        · omega
        · refine .inr ⟨⟨b, cb, by omega, q2, q3⟩, fun b' c' hb hw' => ?_⟩
          rcases Nat.lt_or_ge b' k with q | q
          · exact hm b' c' q hw'
          · obtain rfl : b' = k := by omega
            have := hcm c' hw'; omega
    · simp only [show ¬ ((1000 : Int) < 1000) from by omega, decide_false, Bool.false_eq_true, if_false, Option.bind_some]
      refine ⟨_, rfl, v, rfl, ?_⟩
      rcases hm with ⟨rfl, hm⟩ | ⟨⟨b, cb, q1, q2, q3⟩, hm⟩
      · refine .inl ⟨rfl, fun b c hb hw => ?_⟩
        rcases Nat.lt_or_ge b k with q | q
        · exact hm b c q hw
        · obtain rfl : b = k := by omega
          exact hno c hw
      · refine .inr ⟨⟨b, cb, by omega, q2, q3⟩, fun b' c' hb hw' => ?_⟩
        rcases Nat.lt_or_ge b' k with q | q
        · exact hm b' c' q hw'
        · obtain rfl : b' = k := by omega
          exact absurd hw' (hno c')
  obtain ⟨a, q1, v, q2, q3⟩ := loop_rel C (fun k (a : List Int) => ((k : Int), a)) (sheetmetalref05_Fewest_l4 (i0, C) ((s : Int), nx0)) (fun a => a) (fun k a => ∃ v, a = nx.set s v ∧ MinTo st p s k v) nx start hstep (fun a _ => by
    unfold sheetmetalref05_Fewest_l4
    have : ¬ ((C.length : Nat) : Int) < 512 := by omega
    simp only [this, decide_false, Bool.false_eq_true, if_false])
  rw [hC5] at q3
  exact ⟨v, by rw [show ((0 : Int), nx) = (((0 : Nat) : Int), nx) from rfl, q1, q2], q3⟩
theorem min_cost {st : Int} (hst : 0 ≤ st) {p : List (List Int)} {need : List Int} {s : Nat} (hs : s < 512) (hps : (pop s : Int) ≤ st) (hh : hit s need = true) {v : Int} (h : MinTo st p s 512 v) : CostAt st (p ++ [need]) s v := by
  rcases h with ⟨rfl, hno⟩ | ⟨⟨b, c, hb, hw, rfl⟩, hm⟩
  · refine .inr ⟨rfl, fun c hw => ?_⟩
    obtain ⟨b, c0, w0, _⟩ := way_snoc hw
    exact hno b c0 (way_ok hst w0).1 w0
  · refine .inl ⟨_, rfl, .snoc hw hs hps hh, fun c' hw' => ?_⟩
    obtain ⟨b', c0, w0, _, _, _, rfl⟩ := way_snoc hw'
    have := hm b' c0 (way_ok hst w0).1 w0
    omega
theorem few_row {st : Int} (hst : 0 ≤ st) {p : List (List Int)} (hp : p.length ≤ 60) {C : List Int} (hC : CostOk st p C) (i0 : Int) {need : List Int} (hn : Small need) (N : Nat) (hN : N = 512) :
    ∃ C', loopT (sheetmetalref05_Fewest_l5 st (i0, C) (toB need : Int)) (0, List.replicate N 0) = some C' ∧ CostOk st (p ++ [need]) C' := by
  have hstep : ∀ (k x : Nat) (a : List Int), (List.range 512)[k]? = some x → (a.length = 512 ∧ ∀ j < k, ∀ v, a[j]? = some v → CostAt st (p ++ [need]) j v) →
      ∃ a', sheetmetalref05_Fewest_l5 st (i0, C) (toB need : Int) ((k : Int), a) = some (.inl (((k + 1 : Nat) : Int), a')) ∧ a'.length = 512 ∧ ∀ j < k + 1, ∀ v, a'[j]? = some v → CostAt st (p ++ [need]) j v := by
    intro k x a hx ⟨hl, hI⟩
    obtain ⟨rfl, hk⟩ := range_get hx
    have h1 : decide ((x : Int) < 512) = true := by rw [decide_eq_true_eq]; omega
    have h2 : decide ((0 : Int) ≤ (x : Int)) = true := by rw [decide_eq_true_eq]; omega
    have hg : a[x]? = some a[x] := List.getElem?_eq_getElem (by omega)
    have hset : ∀ (b : List Int) (v : Int), b.length = 512 → (∀ j < x, b[j]? = a[j]?) → CostAt st (p ++ [need]) x v → (b.set x v).length = 512 ∧ ∀ j < x + 1, ∀ u, (b.set x v)[j]? = some u → CostAt st (p ++ [need]) j u := fun b v hb hsame hv => by
      refine ⟨by rw [List.length_set]; exact hb, fun j hj u hu => ?_⟩
      rw [List.getElem?_set] at hu
      by_cases e : x = j
      · subst e
        rw [if_pos rfl, if_pos (by omega)] at hu
        injection hu with hu
        subst hu; exact hv
      · rw [if_neg e, hsame j (by omega)] at hu
        exact hI j (by omega) u hu
    unfold sheetmetalref05_Fewest_l5
    simp only [h1, h2, Bool.and_self, if_true, idx_of hg, Option.bind_some, count_ok hk, kand_hit hk hn, sheetmetalref05_Fewest_k2, succ_cast x (by omega), Int.toNat_natCast]
    by_cases hpp : (pop x : Int) > st
    · simp only [hpp, decide_true, if_true, Option.bind_some]
      exact ⟨_, rfl, hset a 1000 hl (fun _ _ => rfl) (.inr ⟨rfl, fun c hw => by obtain ⟨_, _, _, _, q, _⟩ := way_snoc hw; omega⟩)⟩
    · simp only [hpp, decide_false, Bool.false_eq_true, if_false, Option.bind_some]
      cases hh : hit x need with
      | false =>
        simp only [Bool.not_false, if_true]
        exact ⟨_, rfl, hset a 1000 hl (fun _ _ => rfl) (.inr ⟨rfl, fun c hw => by obtain ⟨_, _, _, _, _, q, _⟩ := way_snoc hw; rw [hh] at q; cases q⟩)⟩
      | true =>
        obtain ⟨v, v1, v2⟩ := few_in hst hp hC i0 hk a (a.set x 1000) (by rw [List.length_set]; exact hl) (by rw [List.getElem?_set, if_pos rfl, if_pos (by omega)])
        simp only [Bool.not_true, Bool.false_eq_true, if_false, v1, Option.bind_some]
        exact ⟨_, rfl, hset (a.set x 1000) v (by rw [List.length_set]; exact hl) (fun j hj => by rw [List.getElem?_set, if_neg (by omega)]) (min_cost hst hk (by omega) hh v2)⟩
  obtain ⟨a, q1, q2, q3⟩ := loop_rel (List.range 512) (fun k (a : List Int) => ((k : Int), a)) (sheetmetalref05_Fewest_l5 st (i0, C) (toB need : Int)) (fun a => a) (fun k a => a.length = 512 ∧ ∀ j < k, ∀ v, a[j]? = some v → CostAt st (p ++ [need]) j v) (List.replicate N 0)
    ⟨by rw [List.length_replicate]; exact hN, fun j hj => absurd hj (by omega)⟩ hstep (fun a _ => by
      unfold sheetmetalref05_Fewest_l5
      have : ¬ (((List.range 512).length : Nat) : Int) < 512 := by rw [List.length_range]; omega
      simp only [this, decide_false, Bool.false_eq_true, if_false])
  rw [List.length_range] at q3
  exact ⟨a, q1, q2, fun s v hv => q3 s (by have := lt_of_get hv; omega) v hv⟩
theorem cost_start (N : Nat) (hN : N = 512) (st : Int) : CostOk st [] ((List.replicate N 1000).set 0 0) := by
  refine ⟨by rw [List.length_set, List.length_replicate]; exact hN, fun s v hv => ?_⟩
  rw [List.getElem?_set] at hv
  by_cases e : 0 = s
  · subst e
    rw [if_pos rfl, if_pos (by rw [List.length_replicate]; omega)] at hv
    injection hv with hv
    subst hv
    exact .inl ⟨0, rfl, .nil, fun c' _ => Nat.zero_le _⟩
  · rw [if_neg e, List.getElem?_replicate] at hv
    split at hv
    · injection hv with hv
      subst hv
      exact .inr ⟨rfl, fun c hw => e (way_nil hw).1.symm⟩
    · cases hv
theorem few_all {st : Int} (hst : 0 ≤ st) {needs : List (List Int)} (hlen : needs.length ≤ 60) (hs : AllSmall needs) {C0 : List Int} (h0 : CostOk st [] C0) :
    ∃ C, loopT (sheetmetalref05_Fewest_l6 needs st) (0, C0) = some C ∧ CostOk st needs C := by
  obtain ⟨a, q1, q2⟩ := loop_rel needs (fun k (a : List Int) => ((k : Int), a)) (sheetmetalref05_Fewest_l6 needs st) (fun a => a) (fun k a => CostOk st (needs.take k) a) C0 (by rw [List.take_zero]; exact h0)
    (fun k x a hx hI => by
      have hk := lt_of_get hx
      have h1 : decide ((k : Int) < (needs.length : Int)) = true := by rw [decide_eq_true_eq]; omega
      obtain ⟨hsm, hlx⟩ := hs x (List.mem_of_getElem? hx)
      obtain ⟨C', c1, c2⟩ := few_row hst (p := needs.take k) (by rw [List.length_take]; omega) hI (k : Int) hsm 512 rfl
      have hl : ((C'.length : Int) == 512) = true := by rw [beq_iff_eq, c2.1]; rfl
      have hl2 : ((a.length : Int) == 512) = true := by rw [beq_iff_eq, hI.1]; rfl
      unfold sheetmetalref05_Fewest_l6
      simp only [h1, if_true, idx_of hx, Option.bind_some, rBits_ok hsm hlx, c1, hl, hl2, Bool.and_self, succ_cast k (by omega)]
      exact ⟨_, rfl, by rw [take_succ hx]; exact c2⟩) (fun a _ => by
      unfold sheetmetalref05_Fewest_l6
      simp only [Int.lt_irrefl, decide_false, Bool.false_eq_true, if_false])
  rw [List.take_length] at q2
  exact ⟨a, q1, q2⟩
theorem few_least {st : Int} (hst : 0 ≤ st) {needs : List (List Int)} (hlen : needs.length ≤ 60) {C : List Int} (hC : CostOk st needs C) {n : Nat} (hn : IsMin st needs n) :
    loopT (sheetmetalref05_Fewest_l8 C) (1000, 0) = some (n : Int) := by
  obtain ⟨a, q1, q2, q3⟩ := loop_rel C (fun k (a : Int) => (a, (k : Int))) (sheetmetalref05_Fewest_l8 C) (fun a => a) (fun k a => (a = 1000 ∨ ∃ j, C[j]? = some a) ∧ ∀ j < k, ∀ v, C[j]? = some v → a ≤ v) 1000 ⟨.inl rfl, fun j hj => absurd hj (by omega)⟩
    (fun k x a hx hI => by
      have hk : k < 512 := by have := lt_of_get hx; have := hC.1; omega
      have h1 : decide ((k : Int) < 512) = true := by rw [decide_eq_true_eq]; omega
      have h2 : decide ((0 : Int) ≤ (k : Int)) = true := by rw [decide_eq_true_eq]; omega
      unfold sheetmetalref05_Fewest_l8
      simp only [h1, h2, Bool.and_self, if_true, idx_of hx, Option.bind_some, sheetmetalref05_Fewest_k7, succ_cast k (by omega)]
      by_cases hlt : x < a
      · simp only [hlt, decide_true, if_true]
        refine ⟨x, rfl, .inr ⟨k, hx⟩, fun j hj v hv => ?_⟩
        rcases Nat.lt_or_ge j k with q | q
        · have := hI.2 j q v hv; omega
        · obtain rfl : j = k := by omega
          rw [hx] at hv; injection hv with hv; omega
      · simp only [hlt, decide_false, Bool.false_eq_true, if_false]
        refine ⟨a, rfl, hI.1, fun j hj v hv => ?_⟩
        rcases Nat.lt_or_ge j k with q | q
        · exact hI.2 j q v hv
        · obtain rfl : j = k := by omega
          rw [hx] at hv; injection hv with hv; omega) (fun a _ => by
      unfold sheetmetalref05_Fewest_l8
      have : ¬ ((C.length : Nat) : Int) < 512 := by have := hC.1; omega
      simp only [this, decide_false, Bool.false_eq_true, if_false])
  rw [show ((1000 : Int), (0 : Int)) = (1000, ((0 : Nat) : Int)) from rfl, q1]
  obtain ⟨⟨s, w⟩, hm⟩ := hn
  obtain ⟨hs5, _, hn9⟩ := way_ok hst w
  have hg : C[s]? = some (C[s]'(by rw [hC.1]; exact hs5)) := List.getElem?_eq_getElem _
  have hle := q3 s (by rw [hC.1]; exact hs5) _ hg
  have hcs : (C[s]'(by rw [hC.1]; exact hs5)) ≤ (n : Int) := by
    rcases hC.2 s _ hg with ⟨c, e, _, hmin⟩ | ⟨_, hno⟩
    · rw [e]; have := hmin n w; omega
    · exact absurd w (hno n)
  rcases q2 with rfl | ⟨j, hj⟩
  · omega
  · rcases hC.2 j _ hj with ⟨c, rfl, w', _⟩ | ⟨rfl, _⟩
    · have := hm _ _ w'
      congr 1
      omega
    · omega
theorem rFewest_ok {st : Int} (hst : 0 ≤ st) {needs : List (List Int)} (hlen : needs.length ≤ 60) (hs : AllSmall needs) {n : Nat} (hn : IsMin st needs n) : sheetmetalref05_Fewest needs st = some (n : Int) := by
  have h0 := cost_start 512 rfl st
  obtain ⟨C, c1, c2⟩ := few_all hst hlen hs h0
  have hi : idx (List.replicate 512 (1000 : Int)) 0 = some 1000 := by
    rw [show (0 : Int) = ((0 : Nat) : Int) from rfl, idx_nat, List.getElem?_replicate]
    rfl
  unfold sheetmetalref05_Fewest
  simp only [few_init 512 rfl, Option.bind_some, hi, Int.toNat_zero, c1, few_least hst hlen c2 hn]
theorem rLeast_ok {needs : List (List Int)} (h : Sz needs) (st : Int) :
    (checkCode needs st ≠ 0 ∧ sheetmetalref05_Least needs st = some (0, checkCode needs st)) ∨ (checkCode needs st = 0 ∧ ∀ n : Nat, IsMin st needs n → sheetmetalref05_Least needs st = some ((n : Int), 0)) := by
  unfold sheetmetalref05_Least
  simp only [rCheck_ok h st, Option.bind_some]
  by_cases hc : checkCode needs st = 0
  · right
    refine ⟨hc, fun n hn => ?_⟩
    obtain ⟨_, hf, h1, _, _⟩ := code_zero h hc
    simp only [hc, bne_self_eq_false, Bool.false_eq_true, if_false, rFewest_ok (by omega) hf.1 (fun l hl => (hf.2 l hl).2) hn, Option.bind_some]
  · left
    refine ⟨hc, ?_⟩
    simp [hc]
theorem law_SetupPlans (needs : List (List Int)) (st : Int) : sheetmetallaw05_SetupPlans needs st = some true := by
  unfold sheetmetallaw05_SetupPlans
  simp only [heavy_ok, Option.bind_some]
  cases hh : heavyB needs with
  | true => simp [known_ok]
  | false =>
    have hs := heavy_sz hh
    simp only [Bool.false_eq_true, if_false, Option.bind_some]
    by_cases hc : checkCode needs st = 0
    case neg =>
      rcases least_ok hs st with ⟨_, h1⟩ | ⟨h, _⟩
      case inr => exact absurd h hc
      rcases rLeast_ok hs st with ⟨_, h2⟩ | ⟨h, _⟩
      case inr => exact absurd h hc
      have h3 : setup_Plan needs st = some ([], checkCode needs st) := by
        unfold setup_Plan
        simp [check_ok hs, hc]
      simp [h1, h2, h3, hc, known_ok]
    case pos =>
      obtain ⟨l, n, p1, p2, p3, p4, p5, p6⟩ := Plan_ok hs hc
      rcases rLeast_ok hs st with ⟨h, _⟩ | ⟨_, h2⟩
      · exact absurd hc h
      have h2 := h2 n p3
      have h3 := (Check_ok hs st p6).2
      rw [p5] at h3
      simp [p1, p2, h2, h3, p4, known_ok]
end Go.SM
