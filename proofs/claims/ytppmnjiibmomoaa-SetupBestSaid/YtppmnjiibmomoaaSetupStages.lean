/- The least number of changes: what setup.Least reckons. -/
import Derived.Test.YtppmnjiibmomoaaSetupBits
set_option linter.unusedVariables false
set_option linter.unusedSimpArgs false
set_option linter.unusedSectionVars false
namespace Go.SM
open Go Go.VI

/-- A way through the steps p that ends with the set s, with c changes. -/
inductive Way (st : Int) : List (List Int) → Nat → Nat → Prop
  | nil : Way st [] 0 0
  | snoc {p : List (List Int)} {b c s : Nat} {need : List Int} (h : Way st p b c) (hs : s < 512) (hp : (pop s : Int) ≤ st) (hh : hit s need = true) : Way st (p ++ [need]) s (c + pop (sdiff s b))
def IsMin (st : Int) (needs : List (List Int)) (n : Nat) : Prop := (∃ s, Way st needs s n) ∧ ∀ s c, Way st needs s c → n ≤ c
theorem isMin_one {st : Int} {needs : List (List Int)} {n m : Nat} (h : IsMin st needs n) (h' : IsMin st needs m) : n = m := by
  obtain ⟨⟨s, a⟩, b⟩ := h
  obtain ⟨⟨s', a'⟩, b'⟩ := h'
  have := b _ _ a'
  have := b' _ _ a
  omega
theorem way_nil {st : Int} {s c : Nat} (h : Way st [] s c) : s = 0 ∧ c = 0 := by
  generalize hp : ([] : List (List Int)) = p at h
  cases h with
  | nil => exact ⟨rfl, rfl⟩
  | snoc => simp at hp
theorem way_snoc {st : Int} {p : List (List Int)} {need : List Int} {s c : Nat} (h : Way st (p ++ [need]) s c) : ∃ b c0, Way st p b c0 ∧ s < 512 ∧ (pop s : Int) ≤ st ∧ hit s need = true ∧ c = c0 + pop (sdiff s b) := by
  generalize hp : p ++ [need] = q at h
  cases h with
  | nil => simp at hp
  | snoc h hs hp' hh =>
    obtain ⟨rfl, e⟩ := List.append_inj' hp rfl
    simp at e; subst e
    exact ⟨_, _, h, hs, hp', hh, rfl⟩
theorem pop_le (n : Nat) : pop n ≤ 9 := by
  unfold pop
  have := List.countP_le_length (p := fun i => n.testBit i) (l := List.range 9)
  simpa using this
theorem pop_zero : pop 0 = 0 := by decide
theorem way_ok {st : Int} (hst : 0 ≤ st) {p : List (List Int)} {s c : Nat} (h : Way st p s c) : s < 512 ∧ (pop s : Int) ≤ st ∧ c ≤ 9 * p.length := by
  induction h with
  | nil => exact ⟨by omega, by rw [pop_zero]; exact hst, by simp⟩
  | snoc h hs hp hh ih =>
    refine ⟨hs, hp, ?_⟩
    have := pop_le (sdiff ‹Nat› ‹Nat›)
    have q := ih.2.2
    simp only [List.length_append, List.length_cons, List.length_nil]
    have := pop_le
    rename_i b c s need this2
    have := pop_le (sdiff s b)
    omega
/-- the map of a stage: the least changes to each set -/
structure MapOpt (st : Int) (p : List (List Int)) (m : List (Int × Int)) : Prop where
  val : ∀ k v, mfind m k = some v → ∃ s c : Nat, k = s ∧ v = c ∧ Way st p s c ∧ ∀ c', Way st p s c' → c ≤ c'
  all : ∀ (s c : Nat), Way st p s c → (mfind m (s : Int)).isSome = true
  ok : BestOk m
theorem opt_start (st : Int) : MapOpt st [] (mput [] 0 0) := by
  refine ⟨fun k v h => ?_, fun s c h => ?_, bestOk_put bestOk_nil (by omega)⟩
  · rw [mfind_put] at h
    split at h
    · rename_i e; injection h with h; subst e h
      exact ⟨0, 0, rfl, rfl, .nil, fun c' h => by have := (way_nil h).2; omega⟩
    · cases h
  · obtain ⟨rfl, _⟩ := way_nil h
    rw [mfind_put]; simp
/-- what is at a set behind the inmost loop -/
def AtS (m : List (Int × Int)) (s : Nat) (bs : List Nat) (o : Option Int) : Prop := match o with
  | none => ∀ b ∈ bs, mfind m (b : Int) = none
  | some v => (∃ b ∈ bs, ∃ u, mfind m (b : Int) = some u ∧ v = u + (pop (sdiff s b) : Int)) ∧ ∀ b ∈ bs, ∀ u, mfind m (b : Int) = some u → v ≤ u + (pop (sdiff s b) : Int)
theorem take_succ {α : Type} {l : List α} {k : Nat} {x : α} (h : l[k]? = some x) : l.take (k + 1) = l.take k ++ [x] := by
  rw [List.take_add_one, h]; rfl
section
variable {st : Int} {p : List (List Int)} {m : List (Int × Int)}
theorem opt_bound (hst : 0 ≤ st) (h : MapOpt st p m) (hp : p.length ≤ 60) {k v : Int} (hk : mfind m k = some v) : 0 ≤ v ∧ v ≤ 540 := by
  obtain ⟨s, c, rfl, rfl, hw, _⟩ := h.val k v hk
  have := (way_ok hst hw).2.2
  omega
theorem inner (hst : 0 ≤ st) (h : MapOpt st p m) (hp : p.length ≤ 60) (i0 : Int) (out : List setup_stage) {s : Nat} (hs : s < 512) (ch0 be0 : List (Int × Int)) (hch : BestOk ch0) (h0 : mfind ch0 (s : Int) = none) :
    ∃ a : List (Int × Int) × List (Int × Int), loopT (setup_stages_l3 ((mnt st).map fun (n : Nat) => (n : Int)) (i0, m, out) (s : Int)) (0, ch0, be0) = some a ∧ BestOk a.1 ∧ (∀ k, k ≠ (s : Int) → mfind a.1 k = mfind ch0 k) ∧ AtS m s (mnt st) (mfind a.1 s) := by
  have hlen : (mnt st).length ≤ 512 := by
    have := List.length_filter_le (fun n => decide ((pop n : Int) ≤ st)) (List.range 512)
    simpa [mnt] using this
  refine Exists.elim (loop_rel (mnt st) (fun k (a : List (Int × Int) × List (Int × Int)) => ((k : Int), a.1, a.2)) (setup_stages_l3 ((mnt st).map fun (n : Nat) => (n : Int)) (i0, m, out) (s : Int)) (fun a => (a.1, a.2))
    (fun k a => BestOk a.1 ∧ (∀ k, k ≠ (s : Int) → mfind a.1 k = mfind ch0 k) ∧ AtS m s ((mnt st).take k) (mfind a.1 s)) (ch0, be0) ⟨hch, fun _ _ => rfl, by rw [h0]; simp [AtS]⟩ (fun k b a hb ⟨i1, i2, i3⟩ => ?_) (fun a _ => ?_)) (fun a ⟨q1, q2⟩ => ?_)
  rotate_right
  · refine ⟨a, q1, q2.1, q2.2.1, ?_⟩
    have := q2.2.2
    rwa [List.take_length] at this
  · have hk := lt_of_get hb
    have hb5 : b < 512 := (mem_mnt.1 (List.mem_of_getElem? hb)).1
    have h1 : decide ((k : Int) < (((mnt st).map fun (n : Nat) => (n : Int)).length : Int)) = true := by simp [hk]
    have h2 : idx ((mnt st).map fun (n : Nat) => (n : Int)) (k : Int) = some (b : Int) := idx_of (by rw [List.getElem?_map, hb]; rfl)
    unfold setup_stages_l3
    simp only [h1, if_true, h2, Option.bind_some]
    rw [take_succ hb]
    cases hm : mfind m (b : Int) with
    | none =>
      simp only [Option.isSome_none, Bool.not_false, if_true, setup_stages_k2]
      rw [succ_cast k (by omega)]
      refine ⟨a, rfl, i1, i2, ?_⟩
      unfold AtS at i3 ⊢
      split
      · rename_i e
        rw [e] at i3
        intro b' hb'
        rcases List.mem_append.1 hb' with q | q
        · exact i3 b' q
        · simp at q; subst q; exact hm
      · rename_i v e
        rw [e] at i3
        obtain ⟨⟨b1, p1, p2⟩, p3⟩ := i3
        refine ⟨⟨b1, List.mem_append_left _ p1, p2⟩, fun b' hb' u hu => ?_⟩
        rcases List.mem_append.1 hb' with q | q
        · exact p3 b' q u hu
        · simp at q; subst q; rw [hm] at hu; cases hu
    | some u =>
      have hu := opt_bound hst h hp hm
      have hpl := pop_le (sdiff s b)
      simp only [Option.isSome_some, Bool.not_true, Bool.false_eq_true, if_false, kandNot_nat hs hb5, ones (sdiff_lt (b := b) hs), Option.bind_some, Option.getD_some]
      have hadd : iadd u (pop (sdiff s b) : Int) = u + (pop (sdiff s b) : Int) := iadd_eq (by omega) (by omega)
      simp only [hadd]
      have put_ok : BestOk (mput a.1 (s : Int) (u + (pop (sdiff s b) : Int))) ∧ (∀ k, k ≠ (s : Int) → mfind (mput a.1 (s : Int) (u + (pop (sdiff s b) : Int))) k = mfind ch0 k) :=
        ⟨bestOk_put i1 (by omega), fun k hk => by rw [mfind_put, if_neg hk]; exact i2 k hk⟩
      have at_put : mfind (mput a.1 (s : Int) (u + (pop (sdiff s b) : Int))) (s : Int) = some (u + (pop (sdiff s b) : Int)) := by rw [mfind_put, if_pos rfl]
      cases ha : mfind a.1 (s : Int) with
      | none =>
        simp only [Option.isSome_none, Bool.false_eq_true, if_false, Option.bind_some, if_true, setup_stages_k2]
        rw [succ_cast k (by omega)]
        refine ⟨(_, _), rfl, put_ok.1, put_ok.2, ?_⟩
        rw [at_put]
        rw [ha] at i3
        refine ⟨⟨b, by simp, u, hm, rfl⟩, fun b' hb' u' hu' => ?_⟩
        rcases List.mem_append.1 hb' with q | q
        · have := i3 b' q; rw [this] at hu'; cases hu'
        · simp at q; subst q; rw [hm] at hu'; injection hu' with e; subst e; exact Int.le_refl _
      | some v =>
        rw [ha] at i3
        obtain ⟨⟨b1, p1, p2⟩, p3⟩ := i3
        simp only [Option.isSome_some, if_true, Option.getD_some, Option.bind_some]
        by_cases hlt : u + (pop (sdiff s b) : Int) < v
        · simp only [hlt, decide_true, if_true, setup_stages_k2]
          rw [succ_cast k (by omega)]
          refine ⟨(_, _), rfl, put_ok.1, put_ok.2, ?_⟩
          rw [at_put]
          refine ⟨⟨b, by simp, u, hm, rfl⟩, fun b' hb' u' hu' => ?_⟩
          rcases List.mem_append.1 hb' with q | q
          · have := p3 b' q u' hu'; omega
          · simp at q; subst q; rw [hm] at hu'; injection hu' with e; subst e; exact Int.le_refl _
        · simp only [hlt, decide_false, Bool.false_eq_true, if_false, setup_stages_k2]
          rw [succ_cast k (by omega)]
          refine ⟨a, rfl, i1, i2, ?_⟩
          rw [ha]
          refine ⟨⟨b1, List.mem_append_left _ p1, p2⟩, fun b' hb' u' hu' => ?_⟩
          rcases List.mem_append.1 hb' with q | q
          · exact p3 b' q u' hu'
          · simp at q; subst q; rw [hm] at hu'; injection hu' with e; subst e; omega
  · unfold setup_stages_l3
    simp
theorem stage (hst : 0 ≤ st) (h : MapOpt st p m) (hp : p.length ≤ 60) (i0 : Int) (out : List setup_stage) {need : List Int} (hn : Small need) :
    ∃ a : List (Int × Int) × List (Int × Int), loopT (setup_stages_l4 ((mnt st).map fun (n : Nat) => (n : Int)) (i0, m, out) (toB need : Int)) (0, [], []) = some a ∧ MapOpt st (p ++ [need]) a.1 := by
  have hlen : (mnt st).length ≤ 512 := by
    have := List.length_filter_le (fun n => decide ((pop n : Int) ≤ st)) (List.range 512)
    simpa [mnt] using this
  have hnd : (mnt st).Nodup := List.Pairwise.filter _ List.nodup_range
  refine Exists.elim (loop_rel (mnt st) (fun k (a : List (Int × Int) × List (Int × Int)) => ((k : Int), a.1, a.2)) (setup_stages_l4 ((mnt st).map fun (n : Nat) => (n : Int)) (i0, m, out) (toB need : Int)) (fun a => (a.1, a.2))
    (fun k a => BestOk a.1 ∧ (∀ s ∈ (mnt st).take k, hit s need = true → AtS m s (mnt st) (mfind a.1 (s : Int))) ∧ ∀ x, (¬ ∃ s ∈ (mnt st).take k, x = (s : Int) ∧ hit s need = true) → mfind a.1 x = none) ([], []) ⟨bestOk_nil, by simp, fun _ _ => rfl⟩ (fun k s a hs ⟨i1, i2, i3⟩ => ?_) (fun a _ => ?_)) (fun a ⟨q1, q2⟩ => ?_)
  rotate_right
  · refine ⟨a, q1, ?_⟩
    obtain ⟨i1, i2, i3⟩ := q2
    rw [List.take_length] at i2 i3
    refine ⟨fun k v hk => ?_, fun s c hw => ?_, i1⟩
    · have : ∃ s ∈ mnt st, k = (s : Int) ∧ hit s need = true := Classical.byContradiction fun hc => by rw [i3 k hc] at hk; cases hk
      obtain ⟨s, hs, rfl, hh⟩ := this
      have hsm := mem_mnt.1 hs
      have := i2 s hs hh
      rw [hk] at this
      obtain ⟨⟨b, hb, u, hu, rfl⟩, hmin⟩ := this
      obtain ⟨b', c, hb', rfl, hw, hc⟩ := h.val _ _ hu
      obtain rfl : b = b' := by omega
      refine ⟨s, c + pop (sdiff s b), rfl, by omega, .snoc hw hsm.1 hsm.2 hh, fun c' hw' => ?_⟩
      obtain ⟨b2, c2, w2, _, _, _, rfl⟩ := way_snoc hw'
      have hb2 := way_ok hst w2
      have hsome := h.all b2 c2 w2
      cases hu2 : mfind m (b2 : Int) with
      | none => rw [hu2] at hsome; cases hsome
      | some u2 =>
        obtain ⟨b3, c3, e3, rfl, w3, m3⟩ := h.val _ _ hu2
        obtain rfl : b2 = b3 := by omega
        have := hmin b2 (mem_mnt.2 ⟨hb2.1, hb2.2.1⟩) _ hu2
        have := m3 _ w2
        omega
    · obtain ⟨b, c0, w0, hs, hps, hh, rfl⟩ := way_snoc hw
      have hb := way_ok hst w0
      have := i2 s (mem_mnt.2 ⟨hs, hps⟩) hh
      cases ha : mfind a.1 (s : Int) with
      | some v => rfl
      | none =>
        rw [ha] at this
        have hn := this b (mem_mnt.2 ⟨hb.1, hb.2.1⟩)
        have := h.all b c0 w0
        rw [hn] at this; cases this
  · have hk := lt_of_get hs
    have hsm := mem_mnt.1 (List.mem_of_getElem? hs)
    have h1 : decide ((k : Int) < (((mnt st).map fun (n : Nat) => (n : Int)).length : Int)) = true := by simp [hk]
    have h2 : idx ((mnt st).map fun (n : Nat) => (n : Int)) (k : Int) = some (s : Int) := idx_of (by rw [List.getElem?_map, hs]; rfl)
    have hnew : s ∉ (mnt st).take k := fun hm => by
      obtain ⟨j, hj⟩ := List.mem_iff_getElem?.1 hm
      rw [List.getElem?_take] at hj
      split at hj
      · rename_i hjk
        have hjl := lt_of_get hj
        have := (List.pairwise_iff_getElem.1 hnd) j k hjl hk hjk
        rw [List.getElem?_eq_getElem hjl] at hj
        rw [List.getElem?_eq_getElem hk] at hs
        injection hj with hj
        injection hs with hs
        exact this (hj.trans hs.symm)
      · cases hj
    unfold setup_stages_l4
    simp only [h1, if_true, h2, Option.bind_some, kand_hit hsm.1 hn]
    rw [take_succ hs]
    cases hh : hit s need with
    | false =>
      simp only [Bool.not_false, if_true, setup_stages_k1]
      rw [succ_cast k (by omega)]
      refine ⟨a, rfl, i1, fun s' hs' hh' => ?_, fun x hx => i3 x fun ⟨s', q1, q2⟩ => hx ⟨s', List.mem_append_left _ q1, q2⟩⟩
      rcases List.mem_append.1 hs' with q | q
      · exact i2 s' q hh'
      · simp at q; subst q; rw [hh] at hh'; cases hh'
    | true =>
      have h0 : mfind a.1 (s : Int) = none := i3 _ fun ⟨s', q1, q2, _⟩ => hnew (by
        have e : s = s' := by omega
        rw [e]; exact q1)
      obtain ⟨a', r1, r2, r3, r4⟩ := inner hst h hp i0 out hsm.1 a.1 a.2 i1 h0
      simp only [Bool.not_true, Bool.false_eq_true, if_false, r1, Option.bind_some, setup_stages_k1]
      rw [succ_cast k (by omega)]
      refine ⟨a', rfl, r2, fun s' hs' hh' => ?_, fun x hx => ?_⟩
      · rcases List.mem_append.1 hs' with q | q
        · rw [r3 _ (by intro e; exact hnew (by
            have e' : s = s' := by omega
            rw [e']; exact q))]
          exact i2 s' q hh'
        · simp at q; subst q; exact r4
      · rw [r3 x (by rintro rfl; exact hx ⟨s, by simp, rfl, hh⟩)]
        exact i3 x fun ⟨s', q1, q2⟩ => hx ⟨s', List.mem_append_left _ q1, q2⟩
  · unfold setup_stages_l4
    simp
end
/-- all stages -/
theorem stages_ok {st : Int} (hst : 0 ≤ st) {needs : List (List Int)} (hlen : needs.length ≤ 60) (hn : ∀ l ∈ needs, Small l ∧ l.length ≤ 60) :
    ∃ r, setup_stages needs st = some r ∧ r.length = needs.length ∧ ∀ (k : Nat) x, r[k]? = some x → MapOpt st (needs.take (k + 1)) x.changes := by
  unfold setup_stages
  rw [mounts_ok]
  simp only [Option.bind_some]
  refine Exists.elim (loop_rel needs (fun k (a : List (Int × Int) × List setup_stage) => ((k : Int), a.1, a.2)) (setup_stages_l5 needs ((mnt st).map fun (n : Nat) => (n : Int))) (fun a => a.2)
    (fun k a => MapOpt st (needs.take k) a.1 ∧ a.2.length = k ∧ ∀ (j : Nat) x, a.2[j]? = some x → MapOpt st (needs.take (j + 1)) x.changes) (mput [] 0 0, []) ⟨opt_start st, rfl, by simp⟩ (fun k need a hx ⟨i1, i2, i3⟩ => ?_) (fun a _ => ?_)) (fun a ⟨q1, q2⟩ => ?_)
  rotate_right
  · rw [show ((0 : Int), mput [] 0 0, ([] : List setup_stage)) = (((0 : Nat) : Int), mput [] 0 0, ([] : List setup_stage)) from rfl, q1]
    exact ⟨a.2, rfl, q2.2.1, q2.2.2⟩
  · have hk := lt_of_get hx
    obtain ⟨hs, hl⟩ := hn need (List.mem_of_getElem? hx)
    have h1 : decide ((k : Int) < (needs.length : Int)) = true := by simp [hk]
    obtain ⟨b, r1, r2⟩ := stage hst i1 (by rw [List.length_take]; omega) (k : Int) a.2 hs
    unfold setup_stages_l5
    simp only [h1, if_true, idx_of hx, Option.bind_some, bitsOf_ok hs hl, r1]
    rw [app_eq (by simp [LIM]; omega)]
    simp only [Option.bind_some]
    rw [succ_cast k (by omega)]
    rw [← take_succ hx] at r2
    refine ⟨(_, _), rfl, r2, by simp [i2], fun j x hj => ?_⟩
    rcases Nat.lt_or_ge j a.2.length with q | q
    · rw [List.getElem?_append_left q] at hj; exact i3 j x hj
    · rw [List.getElem?_append_right q] at hj
      have : j = k := by
        have := (List.getElem?_eq_some_iff.1 hj).1
        simp at this; omega
      subst this
      rw [i2, Nat.sub_self] at hj
      simp at hj; subst hj
      exact r2
  · unfold setup_stages_l5
    simp
/-- needs that are fit to be met -/
def Fit (needs : List (List Int)) : Prop := needs.length ≤ 60 ∧ ∀ l ∈ needs, l ≠ [] ∧ Small l ∧ l.length ≤ 60
theorem pop_pow : ∀ x < 9, pop (2 ^ x) = 1 := by decide
theorem way_exists {st : Int} (hst : 1 ≤ st) : ∀ n (needs : List (List Int)), needs.length = n → Fit needs → ∃ s c, Way st needs s c
  | 0, needs, h, _ => by obtain rfl := List.eq_nil_of_length_eq_zero h; exact ⟨0, 0, .nil⟩
  | n + 1, needs, h, hf => by
    have hne : needs ≠ [] := by rintro rfl; cases h
    obtain ⟨p, need, rfl⟩ : ∃ p need, needs = p ++ [need] := ⟨_, _, (List.dropLast_concat_getLast hne).symm⟩
    obtain ⟨s, c, hw⟩ := way_exists hst n p (by simpa using h) ⟨by have := hf.1; simp at this; omega, fun l hl => hf.2 l (List.mem_append_left _ hl)⟩
    obtain ⟨hne2, hsm, _⟩ := hf.2 need (by simp)
    cases need with
    | nil => exact absurd rfl hne2
    | cons x xs =>
      have hx := hsm x (by simp)
      have h9 : x.toNat < 9 := by omega
      refine ⟨2 ^ x.toNat, _, .snoc hw (Nat.pow_lt_pow_right (n := 9) (by omega) h9) (by rw [pop_pow _ h9]; exact hst) ?_⟩
      simp [hit]
theorem fewest_ok {st : Int} (hst : 1 ≤ st) {needs : List (List Int)} (hf : Fit needs) : ∃ n : Nat, setup_fewest needs st = some (n : Int) ∧ IsMin st needs n := by
  unfold setup_fewest
  by_cases h0 : needs = []
  · subst h0
    exact ⟨0, rfl, ⟨0, .nil⟩, fun _ _ _ => Nat.zero_le _⟩
  · have hl : ((needs.length : Int) == 0) = false := by
      have : needs.length ≠ 0 := fun e => h0 (List.eq_nil_of_length_eq_zero e)
      simp only [beq_eq_false_iff_ne, ne_eq]; omega
    obtain ⟨r, q1, q2, q3⟩ := stages_ok (st := st) (by omega) hf.1 fun l hl => (hf.2 l hl).2
    have hpos : 0 < needs.length := List.length_pos_iff.2 h0
    have hlen := hf.1
    have hsub : isub (r.length : Int) 1 = ((needs.length - 1 : Nat) : Int) := by rw [q2, isub_eq (by omega) (by omega)]; omega
    have hlast : r[needs.length - 1]? = some r[needs.length - 1] := by simp
    have hopt := q3 _ _ hlast
    rw [show needs.length - 1 + 1 = needs.length from by omega, List.take_length] at hopt
    simp only [hl, Bool.false_eq_true, if_false, q1, Option.bind_some, hsub, idx_of hlast, setup_stage_best, bestM_ok hopt.ok]
    obtain ⟨s0, c0, w0⟩ := way_exists hst _ needs rfl hf
    have hne : r[needs.length - 1].changes ≠ [] := by
      intro e
      have := hopt.all s0 c0 w0
      rw [e] at this
      cases this
    obtain ⟨v, hv, hmin⟩ := bestOf_spec hopt.ok hne
    rw [mfind_mem hopt.ok.1 hv]
    obtain ⟨s, c, e1, rfl, hw, hc⟩ := hopt.val _ _ (mfind_mem hopt.ok.1 hv)
    refine ⟨c, rfl, ⟨s, hw⟩, fun s' c' hw' => ?_⟩
    have hs' := hopt.all s' c' hw'
    cases hu : mfind r[needs.length - 1].changes (s' : Int) with
    | none => rw [hu] at hs'; cases hs'
    | some u =>
      obtain ⟨s2, c2, e2, rfl, w2, m2⟩ := hopt.val _ _ hu
      obtain rfl : s' = s2 := by omega
      have := m2 _ hw'
      rcases hmin _ (mem_of_mfind hu) with q | q <;> simp only at q <;> omega
end Go.SM
