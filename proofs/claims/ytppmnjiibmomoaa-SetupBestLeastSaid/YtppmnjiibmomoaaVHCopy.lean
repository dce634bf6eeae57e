/- copy into a row of one's own. -/
import Derived.Test.YtppmnjiibmomoaaVHMore
import Derived.Test.YtppmnjiibmomoaaVHBits
import Derived.Test.YtppmnjiibmomoaaVHCut
import Derived.Laws.CopyRow
set_option linter.unusedVariables false
set_option linter.unusedSimpArgs false
set_option linter.unusedSectionVars false
namespace Go.VI
open Go.RowKit

theorem cpy_length {α : Type} {es ys : List α} {lo : Nat} (h : lo + ys.length ≤ es.length) : (cpy es lo ys).length = es.length := by unfold cpy; simp; omega
theorem cpy_get {α : Type} {es ys : List α} {lo : Nat} (h : lo + ys.length ≤ es.length) (i : Nat) : (cpy es lo ys)[i]? = if lo ≤ i ∧ i < lo + ys.length then ys[i - lo]? else es[i]? := by
  have ht : (es.take lo).length = lo := by simp; omega
  unfold cpy
  by_cases h1 : i < lo
  · rw [List.append_assoc, List.getElem?_append_left (by omega), List.getElem?_take, if_pos h1, if_neg (by omega)]
  · by_cases h2 : i < lo + ys.length
    · rw [List.append_assoc, List.getElem?_append_right (by omega), ht, List.getElem?_append_left (by omega), if_pos ⟨by omega, h2⟩]
    · rw [List.getElem?_append_right (by simp; omega), List.getElem?_drop, if_neg (by omega)]
      have : (List.take lo es ++ ys).length = lo + ys.length := by simp; omega
      rw [this, show lo + ys.length + (i - (lo + ys.length)) = i from by omega]
theorem cpy_map {α β : Type} (f : α → β) (es ys : List α) (lo : Nat) : (cpy es lo ys).map f = cpy (es.map f) lo (ys.map f) := by unfold cpy; simp
/-- where a copy goes to: the first element, how many there are -/
def cdst (h : HP) (g : Nat) : PV → Option (Nat × Nat)
  | .row (.top g') _ => if Nat.beq g' g = true then (match h.get g with
    | some (.row _ _ es) => some (0, es.length)
    | _ => none) else none
  | .part (.top g') _ lo n => if Nat.beq g' g = true then some (lo, n) else none
  | _ => none
/-- the same, the row's length being known -/
def cdstL (m g : Nat) : PV → Option (Nat × Nat)
  | .row (.top g') _ => if Nat.beq g' g = true then some (0, m) else none
  | .part (.top g') _ lo n => if Nat.beq g' g = true then some (lo, n) else none
  | _ => none
theorem cdst_of {h : HP} {g e m : Nat} {J : List (Nat × Nat)} {es : List (List PV)} (hg : h.get g = some (.row e J es)) (hm : es.length = m) (x : PV) : cdst h g x = cdstL m g x := by
  cases x with
  | row k0 e0 =>
    cases k0 with
    | top g0 =>
      simp only [cdst, cdstL]
      split
      · rw [hg]; simp [hm]
      · rfl
    | sub => rfl
  | part k0 e0 lo0 n0 => cases k0 <;> rfl
  | _ => rfl
theorem toListGetD (c : Array Value) (m : Nat) : c.toList.getD m undef = c.getD m undef := by simp [Array.getD_eq_getD_getElem?]
section
variable {P : Program} {E : Ent} {S0 : Nat → Prop} {N : Nat} {σ : St} {a : Act} {w : World} {c : Ctx}
theorem cdst_val {e g lo n : Nat} {d : PV} {V : Value} {es : List (List PV)} {xs0 : List Value} (r : RowRep P w c (.top g) e es (CellRep P w c g []) xs0) (hg : σ.hget g = some (.row e [] es)) (hd0 : cdst σ.h g d = some (lo, n)) (rd : RV P w c d V) :
    ∃ B cc', V = .slice B n cc' ∧ (0 < n → B = some ⟨c.τ (.top g), lo * tSize P e, none⟩) := by
  cases rd with
  | free pv v hf => cases hf <;> simp [cdst] at hd0
  | row k e' he h1 =>
    cases k with
    | sub => simp [cdst] at hd0
    | top g' =>
      simp only [cdst] at hd0
      split at hd0
      case isFalse => cases hd0
      rename_i hb
      have := Nat.eq_of_beq_eq_true hb
      subst this
      rw [show σ.h.get g' = some (.row e [] es) from hg] at hd0
      simp only [Option.some.injEq, Prod.mk.injEq] at hd0
      obtain ⟨rfl, rfl⟩ := hd0
      rcases r.own.2 with ⟨h0, hn⟩ | ⟨g2, cap, cur, h0, _⟩
      · exact ⟨none, 0, by rw [h0, hn], fun q => by omega⟩
      · have hob : (c.hd (.top g')).ownBlock = some g2 := by rw [h0]; rfl
        obtain ⟨_, hτ⟩ := r.blk g2 hob
        exact ⟨_, cap, h0, fun _ => by rw [hτ, Nat.zero_mul]⟩
  | part k e' lo' n' B cc' he hn hB =>
    cases k with
    | sub => simp [cdst] at hd0
    | top g' =>
      simp only [cdst] at hd0
      split at hd0
      case isFalse => cases hd0
      rename_i hb
      have := Nat.eq_of_beq_eq_true hb
      subst this
      simp only [Option.some.injEq, Prod.mk.injEq] at hd0
      obtain ⟨rfl, rfl⟩ := hd0
      have e1 : e' = e := he.symm.trans r.ty
      subst e1
      exact ⟨B, cc', rfl, hB⟩
  | _ => simp [cdst] at hd0
/-- Elements put into a row: what is stored, and what is said then. -/
theorem put_core {e g lo m : Nat} {es xs : List (List PV)} {xs0 news : List Value} (r : RowRep P w c (.top g) e es (CellRep P w c g []) xs0) (hlen : ∀ l ∈ xs, l.length = tSize P e) (hnl : news.length = xs.length * tSize P e) (hone : ∀ u ∈ news, u.oneCell' = true)
    (hrep : ∀ i j pv, getE xs i j = some pv → RF w c.S pv (news.getD (i * tSize P e + j) undef)) (hm1 : m ≤ xs.length) (hfit : lo + m ≤ es.length) (hmp : 0 < m) (h : Inv P E S0 N σ a w c) :
    ∃ (g' : Nat) (cur : Array Value), c.τ (.top g) = g' ∧ (∃ cap', c.hd (.top g) = .slice (some ⟨g', 0, none⟩) es.length cap') ∧ (storeCells ⟨g', lo * tSize P e, none⟩ (news.take (m * tSize P e))).run P w = .ok () (w.setRow g' (splice cur (lo * tSize P e) (news.take (m * tSize P e)))) ∧
      Inv P E S0 N (σ.put g (.row e [] (cpy es lo (xs.take m)))) a (w.setRow g' (splice cur (lo * tSize P e) (news.take (m * tSize P e)))) c := by
  have hyl : (xs.take m).length = m := by simp; omega
  obtain ⟨hl, ⟨_, hn⟩ | ⟨g', cap', cur, hv, hb, hgc, hnc, hcm, hcs, htake⟩⟩ := r.own
  · omega
  have hob : (c.hd (.top g)).ownBlock = some g' := by rw [hv]; rfl
  obtain ⟨hDk, hτ⟩ := r.blk g' hob
  let ns := news.take (m * tSize P e)
  have hmul : m * tSize P e ≤ news.length := by rw [hnl]; exact Nat.mul_le_mul_right _ hm1
  have hnsl : ns.length = m * tSize P e := by simp only [ns, List.length_take]; omega
  have hns1 : ∀ v ∈ ns, v.oneCell' = true := fun v hv' => hone v (List.mem_of_mem_take hv')
  have hfit2 : lo * tSize P e + ns.length ≤ cur.size := by
    rw [hnsl, hcs, ← Nat.add_mul]
    exact Nat.mul_le_mul_right _ (by omega)
  have hst := run_storeCells_at (P := P) g' (lo * tSize P e) e ns 0 cur w hgc (by simpa using hfit2) hns1
  simp only [Nat.add_zero] at hst
  let c1 := splice cur (lo * tSize P e) ns
  have hst' : (storeCells ⟨g', lo * tSize P e, none⟩ ns).run P w = .ok () (w.setRow g' c1) := by simpa [c1, splice] using hst
  have hcl := cpy_length (es := es) (ys := xs.take m) (lo := lo) (by omega)
  have hkl : ∀ l ∈ cpy es lo (xs.take m), l.length = tSize P e := fun l hl' => by
    unfold cpy at hl'
    simp only [List.mem_append] at hl'
    rcases hl' with (q | q) | q
    · exact r.len l (List.mem_of_mem_take q)
    · exact hlen l (List.mem_of_mem_take q)
    · exact r.len l (List.mem_of_mem_drop q)
  have hgE : ∀ i j pv, getE (cpy es lo (xs.take m)) i j = some pv → (lo ≤ i ∧ i < lo + m ∧ getE xs (i - lo) j = some pv) ∨ (¬ (lo ≤ i ∧ i < lo + m) ∧ getE es i j = some pv) := fun i j pv hg' => by
    unfold getE at hg' ⊢
    rw [cpy_get (by omega), hyl] at hg'
    split at hg'
    · rename_i q
      rw [List.getElem?_take, if_pos (by omega)] at hg'
      exact .inl ⟨q.1, q.2, hg'⟩
    · rename_i q
      exact .inr ⟨q, hg'⟩
  have hval : ∀ i j, j < tSize P e → i < es.length → c1.getD (i * tSize P e + j) undef = if lo ≤ i ∧ i < lo + m then news.getD ((i - lo) * tSize P e + j) undef else xs0.getD (i * tSize P e + j) undef := fun i j hj hi => by
    have hlt := idx_lt hi hj
    rw [splice_get hfit2, hnsl]
    have iff_ : (lo * tSize P e ≤ i * tSize P e + j ∧ i * tSize P e + j < lo * tSize P e + m * tSize P e) ↔ (lo ≤ i ∧ i < lo + m) := by
      rw [← Nat.add_mul]
      constructor
      · rintro ⟨q1, q2⟩
        refine ⟨?_, ?_⟩
        · rcases Nat.lt_or_ge i lo with q | q
          · have := Nat.mul_le_mul_right (tSize P e) (show i + 1 ≤ lo from q)
            rw [Nat.add_mul] at this; omega
          · exact q
        · rcases Nat.lt_or_ge i (lo + m) with q | q
          · exact q
          · have := Nat.mul_le_mul_right (tSize P e) q; omega
      · rintro ⟨q1, q2⟩
        have h1 := Nat.mul_le_mul_right (tSize P e) q1
        have h2 := Nat.mul_le_mul_right (tSize P e) (show i + 1 ≤ lo + m from q2)
        rw [Nat.add_mul] at h2
        omega
    by_cases q : lo ≤ i ∧ i < lo + m
    · rw [if_pos (iff_.2 q), if_pos q]
      have e1 : i * tSize P e + j - lo * tSize P e = (i - lo) * tSize P e + j := by rw [Nat.sub_mul]; have := Nat.mul_le_mul_right (tSize P e) q.1; omega
      have hin : (i - lo) * tSize P e + j < m * tSize P e := idx_lt (by omega) hj
      rw [e1, take_getD _ _ _ hin]
    · rw [if_neg (fun hh => q (iff_.1 hh)), if_neg q, ← htake, take_getD _ _ _ hlt]
      simp [Array.getD_eq_getD_getElem?]
  have hrow : HRep P (w.setRow g' c1) c g (.row e [] (cpy es lo (xs.take m))) := by
    have hh' : (w.setRow g' c1).heap[g']? = some (.cells c1 e (0, 0)) := by
      unfold World.setRow
      rw [Array.getElem?_modify, if_pos rfl, hgc]; rfl
    refine ⟨c1.toList.take (es.length * tSize P e), r.ty, r.pos, hkl, ?_, r.blk, fun i j pv hg' => ?_, fun i j pv hg' => ?_⟩
    · rw [hcl]
      have hc1 : c1.size = cur.size := splice_size hfit2
      refine ⟨?_, .inr ⟨g', cap', c1, hv, hb, hh', hnc, hcm, by rw [hc1, hcs], rfl⟩⟩
      simp only [List.length_take, Array.length_toList, hc1, hcs]
      have := Nat.mul_le_mul_right (tSize P e) hnc
      omega
    · have hlt := getE_lt hkl hg'
      rw [hcl] at hlt
      rw [take_getD _ _ _ (idx_lt hlt.1 hlt.2), toListGetD, hval i j hlt.2 hlt.1]
      rcases hgE i j pv hg' with ⟨q1, q2, q3⟩ | ⟨q1, q3⟩
      · rw [if_pos ⟨q1, q2⟩]
        have hlt2 := getE_lt hlen q3
        have hin := idx_lt hlt2.1 hlt2.2
        rw [← hnl] at hin
        rw [List.getD_eq_getElem?_getD, List.getElem?_eq_getElem hin]
        exact hone _ (List.getElem_mem hin)
      · rw [if_neg q1]; exact r.one i j pv q3
    · have hlt := getE_lt hkl hg'
      rw [hcl] at hlt
      rw [take_getD _ _ _ (idx_lt hlt.1 hlt.2), toListGetD, hval i j hlt.2 hlt.1]
      have hsame : Same c.S w (w.setRow g' c1) := fun b hS => setRow_other w g' b c1 fun q => (h.ok.hD _ hDk).2.2 (by rw [hτ]; exact q ▸ hS)
      have lift : ∀ {v : Value}, RF w c.S pv v → RF (w.setRow g' c1) c.S pv v := fun hr => RF.same hsame (fun _ h => h) hr
      have : RF (w.setRow g' c1) c.S pv (if lo ≤ i ∧ i < lo + m then news.getD ((i - lo) * tSize P e + j) undef else xs0.getD (i * tSize P e + j) undef) := by
        rcases hgE i j pv hg' with ⟨q1, q2, q3⟩ | ⟨q1, q3⟩
        · rw [if_pos ⟨q1, q2⟩]; exact lift (hrep _ _ pv q3)
        · rw [if_neg q1]; exact lift (r.rep i j pv q3)
      exact this
  have hinv := h.write (k0 := .top g) hDk c1 (o := .row e [] (cpy es lo (xs.take m))) (by rw [hτ]; exact hrow)
  rw [hτ] at hinv
  exact ⟨g', cur, hτ, ⟨cap', hv⟩, hst', hinv⟩
theorem copy_ok {o : Oper} {t t' e g lo n : Nat} {d x : Operand} {es xs : List (List PV)} (ho : o.op = .call { callee := .builtin .copy, args := #[d, x], argTypes := #[t, t'] }) (ht : tElem P t = some e) (hinfo : ∃ i, P.info? e = some i)
    (hg : σ.hget g = some (.row e [] es)) (hd0 : cdst σ.h g (pev σ d) = some (lo, n)) (hfit : lo + n ≤ es.length) (hxs : (pev σ x).elems σ.h = some xs) (hflat : (pev σ x).flat σ.h = true) (hlen : ∀ l ∈ xs, l.length = tSize P e)
    (h : Inv P E S0 N σ a w c) (hd : ∀ k, o.dst = some k → k < N) :
    Does P E S0 N o a w (Res.put σ o.dst ⟨[], [(g, .row e [] (cpy es lo (xs.take (min xs.length n))))], .lit (.int .i64 (min xs.length n : Nat))⟩) := by
  obtain ⟨xs0, r⟩ := h.objs g _ hg
  have hk0 := r.pos
  -- the source
  obtain ⟨A, cc, news, hX, hnl, hA, hcells, hone, hrep⟩ := elems_rep h.objs (h.ev x) hxs hflat hlen hk0
  have hD := cdst_val r hg hd0 (h.ev d)
  obtain ⟨B, cc', hV, hB⟩ := hD
  have hu := tElem_some ht
  generalize hm : min xs.length n = m
  have hm1 : m ≤ xs.length := by omega
  have hm2 : m ≤ n := by omega
  have hmn : Nat.min xs.length n = m := hm
  have hyl : (xs.take m).length = m := by simp; omega
  -- nothing to be copied
  rcases Nat.eq_zero_or_pos m with hm0 | hmp
  · have hrun : (Builtin.copy_ #[t, t'] o.type #[a.eval d, a.eval x]).run P w = .ok (goInt 0) w := by
      rw [hV, hX]
      have hfc : (Builtin.firstCells (tSize P e) 0 (.slice A xs.length cc)).run P w = .ok #[] w := by
        cases A with
        | none => exact run_firstCells_none (P := P) (w := w) (tSize P e) 0 xs.length cc
        | some ad => have := run_firstCells_some (P := P) (w := w) (tSize P e) 0 ad xs.length cc [] (by simp) (by simp)
                     simpa using this
      unfold Builtin.copy_
      simp only [List.getElem?_toArray, List.getElem?_cons_zero, List.getElem?_cons_succ, Sem.run_bind, run_underlying hu, Result.andThen_ok, Builtin.lenOf, Sem.run_pure, hmn, hm0, run_sizeOf hinfo, hfc]
      cases B <;> simp [storeCells, Sem.run_bind, Sem.run_pure]
    have hexec : (execOp a.eval o).run P w = .ok (.value (.int .i64 0)) w := by
      unfold execOp
      simp only [ho, resolve, invoke, builtin, Sem.run_bind, Sem.run_pure, Result.andThen_ok, List.map_toArray, List.map_cons, List.map_nil, hrun]
      rfl
    have hes : cpy es lo (xs.take m) = es := by rw [hm0]; unfold cpy; simp
    rw [hes]
    have hinv : Inv P E S0 N (σ.put g (.row e [] es)) a w c := by
      refine ⟨h.below, h.ok, h.sub, h.sup, h.slots, fun g' o' hg' => ?_, h.pin, h.small, h.size, h.defers⟩
      rw [hget_put] at hg'
      split at hg'
      · rename_i e'; subst e'; injection hg' with hg'; subst hg'; exact h.objs _ _ hg
      · exact h.objs g' o' hg'
    have := does_mut (σ := σ) (r := ⟨[], [(g, .row e [] es)], .lit (.int .i64 (m : Nat))⟩) (c' := c) hd (.inl hexec) hinv (by rw [hm0]; exact .free _ _ (.lit _))
    exact this
  · -- the row's block
    obtain ⟨hl, ⟨_, hn⟩ | ⟨g', cap', cur, hv, hb, hgc, hnc, hcm, hcs, htake⟩⟩ := r.own
    · omega
    have hob : (c.hd (.top g)).ownBlock = some g' := by rw [hv]; rfl
    obtain ⟨hDk, hτ⟩ := r.blk g' hob
    have hBs := hB (by omega)
    obtain ⟨ad, had⟩ := hA (by intro q; rw [q] at hm1; simp at hm1; omega)
    let ns := news.take (m * tSize P e)
    have hmul : m * tSize P e ≤ news.length := by rw [hnl]; exact Nat.mul_le_mul_right _ hm1
    have hnsl : ns.length = m * tSize P e := by simp only [ns, List.length_take]; omega
    have hfc : (Builtin.firstCells (tSize P e) m (.slice (some ad) xs.length cc)).run P w = .ok ns.toArray w := by
      refine run_firstCells_some (P := P) (w := w) (tSize P e) m ad xs.length cc ns hnsl fun j v hj => ?_
      have : news[j]? = some v := by
        simp only [ns, List.getElem?_take] at hj
        split at hj
        · exact hj
        · cases hj
      exact hcells ad had j v this
    have hns1 : ∀ v ∈ ns, v.oneCell' = true := fun v hv' => hone v (List.mem_of_mem_take hv')
    have hfit2 : lo * tSize P e + ns.length ≤ cur.size := by
      rw [hnsl, hcs, ← Nat.add_mul]
      exact Nat.mul_le_mul_right _ (by omega)
    have hst := run_storeCells_at (P := P) g' (lo * tSize P e) e ns 0 cur w hgc (by simpa using hfit2) hns1
    simp only [Nat.add_zero] at hst
    let c1 := splice cur (lo * tSize P e) ns
    have hst' : (storeCells ⟨g', lo * tSize P e, none⟩ ns).run P w = .ok () (w.setRow g' c1) := by simpa [c1, splice] using hst
    have hrun : (Builtin.copy_ #[t, t'] o.type #[a.eval d, a.eval x]).run P w = .ok (goInt m) (w.setRow g' c1) := by
      rw [hV, hX, hBs, had, hτ]
      unfold Builtin.copy_
      simp only [List.getElem?_toArray, List.getElem?_cons_zero, List.getElem?_cons_succ, Sem.run_bind, run_underlying hu, Result.andThen_ok, Builtin.lenOf, Sem.run_pure, hmn, run_sizeOf hinfo, hfc, hst']
    have hexec : (execOp a.eval o).run P w = .ok (.value (.int .i64 (m : Nat))) (w.setRow g' c1) := by
      unfold execOp
      simp only [ho, resolve, invoke, builtin, Sem.run_bind, Sem.run_pure, Result.andThen_ok, List.map_toArray, List.map_cons, List.map_nil, hrun]
      rfl
    have hcl := cpy_length (es := es) (ys := xs.take m) (lo := lo) (by omega)
    have hkl : ∀ l ∈ cpy es lo (xs.take m), l.length = tSize P e := fun l hl' => by
      unfold cpy at hl'
      simp only [List.mem_append] at hl'
      rcases hl' with (q | q) | q
      · exact r.len l (List.mem_of_mem_take q)
      · exact hlen l (List.mem_of_mem_take q)
      · exact r.len l (List.mem_of_mem_drop q)
    have hgE : ∀ i j pv, getE (cpy es lo (xs.take m)) i j = some pv → (lo ≤ i ∧ i < lo + m ∧ getE xs (i - lo) j = some pv) ∨ (¬ (lo ≤ i ∧ i < lo + m) ∧ getE es i j = some pv) := fun i j pv hg' => by
      unfold getE at hg' ⊢
      rw [cpy_get (by omega), hyl] at hg'
      split at hg'
      · rename_i q
        rw [List.getElem?_take, if_pos (by omega)] at hg'
        exact .inl ⟨q.1, q.2, hg'⟩
      · rename_i q
        exact .inr ⟨q, hg'⟩
    have hval : ∀ i j, j < tSize P e → i < es.length → c1.getD (i * tSize P e + j) undef = if lo ≤ i ∧ i < lo + m then news.getD ((i - lo) * tSize P e + j) undef else xs0.getD (i * tSize P e + j) undef := fun i j hj hi => by
      have hlt := idx_lt hi hj
      rw [splice_get hfit2, hnsl]
      have iff_ : (lo * tSize P e ≤ i * tSize P e + j ∧ i * tSize P e + j < lo * tSize P e + m * tSize P e) ↔ (lo ≤ i ∧ i < lo + m) := by
        rw [← Nat.add_mul]
        constructor
        · rintro ⟨q1, q2⟩
          refine ⟨?_, ?_⟩
          · rcases Nat.lt_or_ge i lo with q | q
            · have := Nat.mul_le_mul_right (tSize P e) (show i + 1 ≤ lo from q)
              rw [Nat.add_mul] at this; omega
            · exact q
          · rcases Nat.lt_or_ge i (lo + m) with q | q
            · exact q
            · have := Nat.mul_le_mul_right (tSize P e) q; omega
        · rintro ⟨q1, q2⟩
          have h1 := Nat.mul_le_mul_right (tSize P e) q1
          have h2 := Nat.mul_le_mul_right (tSize P e) (show i + 1 ≤ lo + m from q2)
          rw [Nat.add_mul] at h2
          omega
      by_cases q : lo ≤ i ∧ i < lo + m
      · rw [if_pos (iff_.2 q), if_pos q]
        have e1 : i * tSize P e + j - lo * tSize P e = (i - lo) * tSize P e + j := by rw [Nat.sub_mul]; have := Nat.mul_le_mul_right (tSize P e) q.1; omega
        have hin : (i - lo) * tSize P e + j < m * tSize P e := idx_lt (by omega) hj
        rw [e1, take_getD _ _ _ hin]
      · rw [if_neg (fun hh => q (iff_.1 hh)), if_neg q, ← htake, take_getD _ _ _ hlt]
        simp [Array.getD_eq_getD_getElem?]
    have hrow : HRep P (w.setRow g' c1) c g (.row e [] (cpy es lo (xs.take m))) := by
      have hh' : (w.setRow g' c1).heap[g']? = some (.cells c1 e (0, 0)) := by
        unfold World.setRow
        rw [Array.getElem?_modify, if_pos rfl, hgc]; rfl
      refine ⟨c1.toList.take (es.length * tSize P e), r.ty, r.pos, hkl, ?_, r.blk, fun i j pv hg' => ?_, fun i j pv hg' => ?_⟩
      · rw [hcl]
        have hc1 : c1.size = cur.size := splice_size hfit2
        refine ⟨?_, .inr ⟨g', cap', c1, hv, hb, hh', hnc, hcm, by rw [hc1, hcs], rfl⟩⟩
        simp only [List.length_take, Array.length_toList, hc1, hcs]
        have := Nat.mul_le_mul_right (tSize P e) hnc
        omega
      · have hlt := getE_lt hkl hg'
        rw [hcl] at hlt
        rw [take_getD _ _ _ (idx_lt hlt.1 hlt.2), toListGetD, hval i j hlt.2 hlt.1]
        rcases hgE i j pv hg' with ⟨q1, q2, q3⟩ | ⟨q1, q3⟩
        · rw [if_pos ⟨q1, q2⟩]
          have hlt2 := getE_lt hlen q3
          have hin := idx_lt hlt2.1 hlt2.2
          rw [← hnl] at hin
          rw [List.getD_eq_getElem?_getD, List.getElem?_eq_getElem hin]
          exact hone _ (List.getElem_mem hin)
        · rw [if_neg q1]; exact r.one i j pv q3
      · have hlt := getE_lt hkl hg'
        rw [hcl] at hlt
        rw [take_getD _ _ _ (idx_lt hlt.1 hlt.2), toListGetD, hval i j hlt.2 hlt.1]
        have hsame : Same c.S w (w.setRow g' c1) := fun b hS => setRow_other w g' b c1 fun q => (h.ok.hD _ hDk).2.2 (by rw [hτ]; exact q ▸ hS)
        have lift : ∀ {v : Value}, RF w c.S pv v → RF (w.setRow g' c1) c.S pv v := fun hr => RF.same hsame (fun _ h => h) hr
        have : RF (w.setRow g' c1) c.S pv (if lo ≤ i ∧ i < lo + m then news.getD ((i - lo) * tSize P e + j) undef else xs0.getD (i * tSize P e + j) undef) := by
          rcases hgE i j pv hg' with ⟨q1, q2, q3⟩ | ⟨q1, q3⟩
          · rw [if_pos ⟨q1, q2⟩]; exact lift (hrep _ _ pv q3)
          · rw [if_neg q1]; exact lift (r.rep i j pv q3)
        exact this
    have hinv := h.write (k0 := .top g) hDk c1 (o := .row e [] (cpy es lo (xs.take m))) (by rw [hτ]; exact hrow)
    rw [hτ] at hinv
    exact does_mut (σ := σ) (r := ⟨[], [(g, .row e [] (cpy es lo (xs.take m)))], .lit (.int .i64 (m : Nat))⟩) (c' := c) hd (.inl hexec) hinv (.free _ _ (.lit _))
theorem zeroCells_len (z : Array Value) (n : Nat) : (Builtin.zeroCells z n).toList.length = n * z.size := by simp [Builtin.zeroCells]
theorem zeroCells_get {z : Array Value} {n i j : Nat} (hi : i < n) (hj : j < z.size) : (Builtin.zeroCells z n).toList.getD (i * z.size + j) undef = z.getD j undef := by
  have hlt : i * z.size + j < n * z.size := idx_lt hi hj
  have hmod : (i * z.size + j) % z.size = j := by rw [Nat.add_comm, Nat.add_mul_mod_self_right, Nat.mod_eq_of_lt hj]
  have hlt2 : i * z.size + j < (Array.range (n * z.size)).size := by simpa using hlt
  have hz : 0 < z.size := by omega
  simp only [Builtin.zeroCells, Array.toList_map, Array.toList_range, List.getD_eq_getElem?_getD, List.getElem?_map, List.getElem?_range hlt, Option.map_some, Option.getD_some, hmod]
  rw [getElem!_pos z j hj]
  simp [Array.getD_eq_getD_getElem?, hj]
theorem clear_ok {o : Oper} {t e g lo n : Nat} {d : Operand} {es : List (List PV)} {z : Value} (ho : o.op = .call { callee := .builtin .clear, args := #[d], argTypes := #[t] }) (ht : tElem P t = some e) (hz : tZero P e = some z) (hrow : tRow P e = true) (hz1 : z.cells.toList.all Value.oneCell' = true)
    (hg : σ.hget g = some (.row e [] es)) (hd0 : cdst σ.h g (pev σ d) = some (lo, n)) (hfit : lo + n ≤ es.length) (h : Inv P E S0 N σ a w c) (hd : ∀ k, o.dst = some k → k < N) :
    Does P E S0 N o a w (Res.put σ o.dst ⟨[], [(g, .row e [] (cpy es lo (List.replicate n (z.cells.toList.map ofE))))], .tup []⟩) := by
  obtain ⟨i, z', hi, hz', hsz, hby, hzs, hsize⟩ := tRow_some hrow
  obtain rfl : z' = z := by unfold tZero at hz; simp [hi, hz'] at hz; exact hz
  obtain ⟨xs0, r⟩ := h.objs g _ hg
  have hk0 := r.pos
  obtain ⟨B, cc', hV, hB⟩ := cdst_val r hg hd0 (h.ev d)
  have hu := tElem_some ht
  have hzv : (zeroValue e).run P w = .ok z' w := by simp [zeroValue, typeInfo, hi, hz']
  have hval : ∀ {w' : World}, (Builtin.clear_ #[t] o.type #[a.eval d]).run P w = .ok (.tuple #[]) w' → (execOp a.eval o).run P w = .ok (.value (.tuple #[])) w' := fun hrun => by
    unfold execOp
    simp only [ho, resolve, invoke, builtin, Sem.run_bind, Sem.run_pure, Result.andThen_ok, List.map_toArray, List.map_cons, List.map_nil, hrun]
  rcases Nat.eq_zero_or_pos n with hn0 | hnp
  · subst hn0
    have hrun : (Builtin.clear_ #[t] o.type #[a.eval d]).run P w = .ok (.tuple #[]) w := by
      rw [hV]
      unfold Builtin.clear_
      cases B <;> simp only [List.getElem?_toArray, List.getElem?_cons_zero, Sem.run_bind, run_underlying hu, Result.andThen_ok, Sem.run_pure]
    have hes : cpy es lo (List.replicate 0 (z'.cells.toList.map ofE)) = es := by unfold cpy; simp
    rw [hes]
    have hinv : Inv P E S0 N (σ.put g (.row e [] es)) a w c := by
      refine ⟨h.below, h.ok, h.sub, h.sup, h.slots, fun g' o' hg' => ?_, h.pin, h.small, h.size, h.defers⟩
      rw [hget_put] at hg'
      split at hg'
      · rename_i e'; subst e'; injection hg' with hg'; subst hg'; exact h.objs _ _ hg
      · exact h.objs g' o' hg'
    exact does_mut (σ := σ) (r := ⟨[], [(g, .row e [] es)], .tup []⟩) (c' := c) hd (.inl (hval hrun)) hinv (.free _ _ (.tup _ _ rfl (by simp)))
  · have hzl : (z'.cells.toList.map ofE).length = tSize P e := by simp [hzs, hsize]
    have hzn : z'.cells.size = tSize P e := by rw [hzs, hsize]
    obtain ⟨g', cur, hτ, ⟨cap', hhd⟩, hst, hinv⟩ := put_core (m := n) (lo := lo) (xs := List.replicate n (z'.cells.toList.map ofE)) (news := (Builtin.zeroCells z'.cells n).toList) r (fun l hl => by rw [List.eq_of_mem_replicate hl]; exact hzl) (by rw [zeroCells_len, List.length_replicate, hzn])
      (fun u hu' => by
        obtain ⟨q, hq⟩ := List.mem_iff_getElem?.1 hu'
        have hql := len_of_get hq
        simp only [Builtin.zeroCells, Array.toList_map, Array.toList_range] at hq
        rw [List.getElem?_map] at hq
        obtain ⟨v, hv, rfl⟩ := Option.map_eq_some_iff.1 hq
        have hpos : 0 < z'.cells.size := by omega
        have hm := Nat.mod_lt v hpos
        rw [getElem!_pos z'.cells _ hm]
        exact List.all_eq_true.1 hz1 _ (by simp))
      (fun i j pv hgE => by
        unfold getE at hgE
        rw [List.getElem?_replicate] at hgE
        split at hgE
        case isFalse => cases hgE
        rename_i hi'
        simp only [Option.bind_some, List.getElem?_map] at hgE
        obtain ⟨u, hu', rfl⟩ := Option.map_eq_some_iff.1 hgE
        have hj : j < z'.cells.size := by have := len_of_get hu'; simpa using this
        rw [← hzn, zeroCells_get hi' hj]
        have : z'.cells.getD j undef = u := by
          rw [Array.getElem?_toList] at hu'
          simp [Array.getD_eq_getD_getElem?, hu']
        rw [this]
        exact ofE_RF w c.S u) (by simp) hfit hnp h
    have htk : ((Builtin.zeroCells z'.cells n).toList.take (n * tSize P e)) = (Builtin.zeroCells z'.cells n).toList := List.take_of_length_le (by rw [zeroCells_len, hzn]; exact Nat.le_refl _)
    have htr : (List.replicate n (z'.cells.toList.map ofE)).take n = List.replicate n (z'.cells.toList.map ofE) := List.take_of_length_le (by simp)
    rw [htk] at hst
    rw [htr] at hinv
    have hBs := hB hnp
    have hrun : (Builtin.clear_ #[t] o.type #[a.eval d]).run P w = .ok (.tuple #[]) (w.setRow g' (splice cur (lo * tSize P e) (Builtin.zeroCells z'.cells n).toList)) := by
      rw [hV, hBs, hτ]
      obtain ⟨n', rfl⟩ : ∃ n', n = n' + 1 := ⟨n - 1, by omega⟩
      unfold Builtin.clear_
      simp only [List.getElem?_toArray, List.getElem?_cons_zero, Sem.run_bind, run_underlying hu, Result.andThen_ok, hzv, hst, Sem.run_pure]
    exact does_mut (σ := σ) (r := ⟨[], [(g, .row e [] (cpy es lo (List.replicate n (z'.cells.toList.map ofE))))], .tup []⟩) (c' := c) hd (.inl (hval hrun)) (by rw [htk] at hinv; exact hinv) (.free _ _ (.tup _ _ rfl (by simp)))
end
section
variable {G : Prg} {ops : Array Oper} {k : Nat} {σ : St} {K : St → Prop}
def cpyAt (G : Prg) (ops : Array Oper) (k : Nat) (σ : St) : Option (PV × PV × Nat × Nat) := match onAt ops k σ with
  | some o => (match o.op with
    | .call { callee := .builtin .copy, args := args, argTypes := tys } => (match args.toList, tys.toList with
      | [d, x], [t, _] => (match tElem G.P t with
        | some e => if (G.P.info? e).isSome = true then some (pev σ d, pev σ x, e, tSize G.P e) else none
        | none => none)
      | _, _ => none)
    | _ => none)
  | none => none
/-- copy: l: the row, from place lo on n elements may be written; l2: what is read -/
theorem at_copy {α : Type} {c : α → List PV} {l l2 : List α} {d x : PV} {e sz g lo n : Nat} (h : cpyAt G ops k σ = some (d, x, e, sz)) (hg : σ.h.get g = some (.row e [] (l.map c))) (hd : cdstL l.length g d = some (lo, n)) (hfit : lo + n ≤ l.length)
    (hx : x.elems σ.h = some (l2.map c)) (hf : x.flat σ.h = true) (hs : ∀ y, (c y).length = sz) : DoesAt G ops k σ ⟨[], [(g, .row e [] ((cpy l lo (l2.take (min l2.length n))).map c))], vI (min l2.length n : Nat)⟩ := by
  unfold cpyAt at h
  split at h
  case h_2 => cases h
  rename_i o ho
  split at h
  case h_2 => cases h
  rename_i args tys hop
  split at h
  case h_2 => cases h
  rename_i d' x' t t' hargs htys
  split at h
  case h_2 => cases h
  rename_i e' he
  split at h
  case isFalse => cases h
  rename_i hinf
  simp only [Option.some.injEq, Prod.mk.injEq] at h
  obtain ⟨rfl, rfl, rfl, rfl⟩ := h
  obtain ⟨q1, q2⟩ := onAt_spec ho
  obtain rfl : args = #[d', x'] := Array.toList_inj.1 hargs
  obtain rfl : tys = #[t, t'] := Array.toList_inj.1 htys
  refine ⟨o, q1, q2, fun hi hdd => ?_⟩
  have hd2 : cdst σ.h g (pev σ d') = some (lo, n) := by rw [cdst_of hg (List.length_map _)]; exact hd
  have := copy_ok (n := n) hop he (Option.isSome_iff_exists.1 hinf) hg hd2 (by simpa using hfit) hx hf (fun r hr => by
    obtain ⟨y, _, rfl⟩ := List.mem_map.1 hr
    exact hs y) hi hdd
  rw [List.length_map, ← List.map_take, ← cpy_map] at this
  exact this
/-- copy, where the order is drawn -/
theorem evd_copy {α : Type} {c : α → List PV} {D : DD} {m : Nat} {l l2 : List α} {d x : PV} {e sz g lo n : Nat} (hm : Nat.ble m k = false) (h : cpyAt G ops k σ = some (d, x, e, sz)) (hg : σ.h.get g = some (.row e [] (l.map c))) (hd : cdstL l.length g d = some (lo, n)) (hfit : lo + n ≤ l.length)
    (hx : x.elems σ.h = some (l2.map c)) (hf : x.flat σ.h = true) (hs : ∀ y, (c y).length = sz) (hT : inL [g] (D.T k) = true) (hav : avB ops k (D.av k) σ = true) (hfv : (Avoid (D.fv k) (vI (min l2.length n : Nat)) && !((D.fv k).any fun y => Nat.beq y g) && (HO.row e [] ((cpy l lo (l2.take (min l2.length n))).map c)).avoid (D.fv k)) = true)
    (next : EVD G ops D m (k + 1) (setO ⟨σ.s, (g, .row e [] ((cpy l lo (l2.take (min l2.length n))).map c)) :: σ.h⟩ (dstAt ops k) (vI (min l2.length n : Nat))) K) : EVD G ops D m k σ K := by
  unfold cpyAt at h
  split at h
  case h_2 => cases h
  rename_i o ho
  split at h
  case h_2 => cases h
  rename_i args tys hop
  split at h
  case h_2 => cases h
  rename_i d' x' t t' hargs htys
  split at h
  case h_2 => cases h
  rename_i e' he
  split at h
  case isFalse => cases h
  rename_i hinf
  simp only [Option.some.injEq, Prod.mk.injEq] at h
  obtain ⟨rfl, rfl, rfl, rfl⟩ := h
  obtain ⟨q1, q2⟩ := onAt_spec ho
  obtain rfl : args = #[d', x'] := Array.toList_inj.1 hargs
  obtain rfl : tys = #[t, t'] := Array.toList_inj.1 htys
  rw [dstAt_eq q1] at next
  have htag : (pev σ d').has (ofTag g) = true := by
    generalize pev σ d' = X at hd
    cases X with
    | row k0 e0 =>
      cases k0 with
      | top g0 =>
        simp only [cdstL] at hd
        split at hd
        · rename_i hb; exact hb
        · cases hd
      | sub => cases hd
    | part k0 e0 lo0 n0 =>
      cases k0 with
      | top g0 =>
        simp only [cdstL] at hd
        split at hd
        · rename_i hb; exact hb
        · cases hd
      | sub => cases hd
    | _ => cases hd
  have hds : DStep G.P ops o (D.rd k) (D.F k) σ ⟨[], [(g, .row e' [] ((cpy l lo (l2.take (min l2.length n))).map c))], vI (min l2.length n : Nat)⟩ := fun T τ lc => by
    obtain ⟨h1, h2⟩ := local_pev lc
    have h2 := h2 (by rw [hop]; rfl)
    have md : (d' : Operand) ∈ o.op.operands.toList := by rw [hop]; simp [Op.operands, Call.operands]
    have mx : (x' : Operand) ∈ o.op.operands.toList := by rw [hop]; simp [Op.operands, Call.operands]
    have hgT : g ∉ T := fun hm => by
      have := List.all_eq_true.1 (h2 _ md) g hm
      rw [htag] at this; cases this
    have hgτ : τ.hget g = some (.row e' [] (l.map c)) := (lc.heap g hgT).symm.trans hg
    refine .inr ⟨by rw [local_guard lc]; exact q2, fun E S0 N a w cx hi hcl hdd next Q hn => ?_⟩
    have hd2 : cdst τ.h g (pev τ d') = some (lo, n) := by rw [cdst_of hgτ (List.length_map _), h1 _ md]; exact hd
    have := copy_ok (n := n) hop he (Option.isSome_iff_exists.1 hinf) hgτ hd2 (by simpa using hfit) (by rw [h1 _ mx, ← elems_ag lc.heap (h2 _ mx)]; exact hx) (by rw [h1 _ mx, ← flat_ag lc.heap (h2 _ mx)]; exact hf) (fun r hr => by
      obtain ⟨y, _, rfl⟩ := List.mem_map.1 hr
      exact hs y) hi hdd
    rw [List.length_map, ← List.map_take, ← cpy_map] at this
    exact this next Q fun a' w' c' hi' => hn a' w' c' (hi'.alike (alike_set o.dst g _ _))
  simp only [Bool.and_eq_true] at hfv
  refine evd_one hm q1 ⟨[], [(g, _)], _⟩ hds (avB_spec q1 hav) hT (by simp only [List.all_cons, List.all_nil, Bool.and_true, Bool.and_eq_true]; exact ⟨hfv.1.1, hfv.1.2, hfv.2⟩) ?_
  have ee : σ.act o.dst ⟨[], [(g, .row e' [] ((cpy l lo (l2.take (min l2.length n))).map c))], vI (min l2.length n : Nat)⟩ = setO ⟨σ.s, (g, .row e' [] ((cpy l lo (l2.take (min l2.length n))).map c)) :: σ.h⟩ o.dst (vI (min l2.length n : Nat)) := by
    have : ∀ h : HP, h.delL [] = h := by
      intro h
      induction h with
      | nil => rfl
      | cons x h ih => obtain ⟨g, o⟩ := x; simp [HP.delL, ih]
    simp only [St.act, this, List.singleton_append]
  rw [ee]; exact next
theorem elems_part {α : Type} {c : α → List PV} {h : HP} {kk : Key} {e lo n : Nat} {l : List α} (hr : h.rowAt kk = some (l.map c)) (hfit : lo + n ≤ l.length) : PV.elems h (.part kk e lo n) = some (((l.drop lo).take n).map c) := by
  simp only [PV.elems, hr, List.length_map, hfit, if_true, List.map_take, List.map_drop]
theorem part_fit {α : Type} {l : List α} {lo hi : Int} (h : (decide (0 ≤ lo) && (decide (lo ≤ hi) && decide (hi ≤ (l.length : Int)))) = true) : lo.toNat + (hi.toNat - lo.toNat) ≤ l.length := by
  simp only [Bool.and_eq_true, decide_eq_true_eq] at h
  omega
theorem st_slP {α : Type} {c : α → List PV} {l : List α} {kk : Key} {e sz : Nat} {k1 k2 : IntKind} {lo hi : Int} (h : slAt G ops k σ = some (.row kk e, sz, some (.lit (.int k1 lo)), some (.lit (.int k2 hi)))) (hr : σ.h.rowAt kk = some (l.map c)) (hs : ∀ y, (c y).length = sz)
    (hb : (decide (0 ≤ lo) && (decide (lo ≤ hi) && decide (hi ≤ (l.length : Int)))) = true) : stepAt G ops k σ = some (.val (.part kk e lo.toNat (hi.toNat - lo.toNat))) := by
  simp only [Bool.and_eq_true, decide_eq_true_eq] at hb
  exact st_slR h hr hs (by simp only [loN, pidx_of hb.1]) (by simp only [hiN, pidx_of (show 0 ≤ hi by omega)]) ⟨by omega, by omega⟩
theorem st_slPL {α : Type} {c : α → List PV} {l : List α} {kk : Key} {e sz : Nat} {k1 : IntKind} {lo : Int} (h : slAt G ops k σ = some (.row kk e, sz, some (.lit (.int k1 lo)), none)) (hr : σ.h.rowAt kk = some (l.map c)) (hs : ∀ y, (c y).length = sz)
    (hb : (decide (0 ≤ lo) && (decide (lo ≤ (l.length : Int)) && decide ((l.length : Int) ≤ (l.length : Int)))) = true) : stepAt G ops k σ = some (.val (.part kk e lo.toNat ((l.length : Int).toNat - lo.toNat))) := by
  simp only [Bool.and_eq_true, decide_eq_true_eq] at hb
  exact st_slR h hr hs (by simp only [loN, pidx_of hb.1]) (by simp only [hiN]; congr 1) ⟨by omega, by omega⟩
theorem st_slPH {α : Type} {c : α → List PV} {l : List α} {kk : Key} {e sz : Nat} {k2 : IntKind} {hi : Int} (h : slAt G ops k σ = some (.row kk e, sz, none, some (.lit (.int k2 hi)))) (hr : σ.h.rowAt kk = some (l.map c)) (hs : ∀ y, (c y).length = sz)
    (hb : (decide ((0 : Int) ≤ 0) && (decide (0 ≤ hi) && decide (hi ≤ (l.length : Int)))) = true) : stepAt G ops k σ = some (.val (.part kk e (0 : Int).toNat (hi.toNat - (0 : Int).toNat))) := by
  simp only [Bool.and_eq_true, decide_eq_true_eq] at hb
  exact st_slR h hr hs (by simp only [loN]; rfl) (by simp only [hiN, pidx_of hb.2.1]) ⟨by simp, by omega⟩
def clrAt (G : Prg) (ops : Array Oper) (k : Nat) (σ : St) : Option (PV × Nat × List PV) := match onAt ops k σ with
  | some o => (match o.op with
    | .call { callee := .builtin .clear, args := args, argTypes := tys } => (match args.toList, tys.toList with
      | [d], [t] => (match tElem G.P t with
        | some e => (match tZero G.P e with
          | some z => if (tRow G.P e && z.cells.toList.all Value.oneCell') = true then some (pev σ d, e, z.cells.toList.map ofE) else none
          | none => none)
        | none => none)
      | _, _ => none)
    | _ => none)
  | none => none
theorem at_clear {α : Type} {c : α → List PV} {l : List α} {z : α} {d : PV} {e g lo n : Nat} {zs : List PV} (h : clrAt G ops k σ = some (d, e, zs)) (hg : σ.h.get g = some (.row e [] (l.map c))) (hd : cdstL l.length g d = some (lo, n)) (hfit : lo + n ≤ l.length) (hz : zs = c z) :
    DoesAt G ops k σ ⟨[], [(g, .row e [] ((cpy l lo (List.replicate n z)).map c))], .tup []⟩ := by
  unfold clrAt at h
  split at h
  case h_2 => cases h
  rename_i o ho
  split at h
  case h_2 => cases h
  rename_i args tys hop
  split at h
  case h_2 => cases h
  rename_i d' t hargs htys
  split at h
  case h_2 => cases h
  rename_i e' he
  split at h
  case h_2 => cases h
  rename_i z' hz'
  split at h
  case isFalse => cases h
  rename_i hc
  simp only [Bool.and_eq_true] at hc
  simp only [Option.some.injEq, Prod.mk.injEq] at h
  obtain ⟨rfl, rfl, h3⟩ := h
  obtain ⟨q1, q2⟩ := onAt_spec ho
  obtain rfl : args = #[d'] := Array.toList_inj.1 hargs
  obtain rfl : tys = #[t] := Array.toList_inj.1 htys
  refine ⟨o, q1, q2, fun hi hdd => ?_⟩
  have := clear_ok (n := n) (lo := lo) hop he hz' hc.1 hc.2 hg (by rw [cdst_of hg (List.length_map _)]; exact hd) (by simpa using hfit) hi hdd
  rw [h3, hz, ← List.map_replicate, ← cpy_map] at this
  exact this
def cutAt (G : Prg) (ops : Array Oper) (k : Nat) (σ : St) : Option (PV × Nat × PV) := match onAt ops k σ with
  | some o => (match o.op with
    | .slice t x none (some y) none => (match tElem G.P t with
      | some e => if (G.P.info? e).isSome = true then some (pev σ x, e, pev σ y) else none
      | none => none)
    | _ => none)
  | none => none
theorem at_cut {α : Type} {c : α → List PV} {l l' : List α} {e g : Nat} {J : List (Nat × Nat)} {k2 : IntKind} {hi : Int} (h : cutAt G ops k σ = some (.row (.top g) e, e, .lit (.int k2 hi))) (hg : σ.h.get g = some (.row e J (l.map c))) (hp : Nat.blt g PIN = true) (hl : slc l 0 hi = some l') :
    DoesAt G ops k σ ⟨[ofTag g], [(g, .row e J (l'.map c))], .row (.top g) e⟩ := by
  obtain ⟨⟨h1, h2, h3⟩, rfl⟩ := slcS hl
  unfold cutAt at h
  split at h
  case h_2 => cases h
  rename_i o ho
  split at h
  case h_2 => cases h
  rename_i t x y hop
  split at h
  case h_2 => cases h
  rename_i e' he
  split at h
  case isFalse => cases h
  rename_i hinf
  simp only [Option.some.injEq, Prod.mk.injEq] at h
  obtain ⟨hx, rfl, hy⟩ := h
  obtain ⟨q1, q2⟩ := onAt_spec ho
  refine ⟨o, q1, q2, fun hi' hdd => ?_⟩
  have := cut_ok (n := hi.toNat) hop he hinf (by simpa using hp) hx (by rw [hy]; exact pidx_of h2) hg (by simp; omega) hi' hdd
  rw [← List.map_take] at this
  simpa using this
theorem idx_part {α : Type} {l : List α} {lo n : Nat} {i : Int} {x : α} (h : idx ((l.drop lo).take n) i = some x) : l[lo + i.toNat]? = some x := by
  obtain ⟨_, h1⟩ := idxS h
  rw [List.getElem?_take] at h1
  split at h1
  · rwa [List.getElem?_drop] at h1
  · cases h1
theorem st_lenP {kk : Key} {e lo n : Nat} (h : lenAt G ops k σ = some (.part kk e lo n)) : stepAt G ops k σ = some (.val (.lit (.int .i64 n))) := by
  unfold lenAt at h
  split at h
  case h_2 => cases h
  rename_i o ho
  split at h
  case h_2 => cases h
  rename_i cl hop
  split at h
  case h_2 => cases h
  rename_i hcal
  split at h
  case h_2 => cases h
  rename_i a t hargs hty
  split at h
  case h_2 => cases h
  rename_i e he
  injection h with h
  refine step_of ho (by rw [hop]; simp only [pcallee, hcal]) ?_
  rw [hop]
  simp only [peop, pcallB, hcal, hargs, hty, he, h, plen]
  rfl
end
end Go.VI
