/- Maps from int to int. -/
import Derived.Test.YtppmnjiibmomoaaVHRest
set_option linter.unusedVariables false
set_option linter.unusedSimpArgs false
set_option linter.unusedSectionVars false
namespace Go.VI
open Go.RowKit

theorem tMap_some {P : Program} {t : TypeId} (h : tMap P t = true) : ∃ k e, P.underlying t = some (.map k e) ∧ P.underlying k = some (.int .i64) ∧ ∀ w, (zeroValue e).run P w = .ok (.int .i64 0) w := by
  unfold tMap at h
  split at h
  · rename_i k e hu
    split at h
    · rename_i hk hz
      refine ⟨k, e, hu, ?_, fun w => ?_⟩
      · unfold tInt at hk
        split at hk
        · rename_i he; injection hk with hk; subst hk; exact he
        · cases hk
      · unfold tZero at hz
        cases hi : P.info? e with
        | none => simp [hi] at hz
        | some i => simp [hi] at hz; simp [zeroValue, typeInfo, hi, hz]
    · cases h
  · cases h
/-- where a key stands -/
def mat (m : List (Int × Int)) (k : Int) : Nat → Option (Nat × Int)
  | i => match m with
    | [] => none
    | (a, b) :: m => if k == a then some (i, b) else mat m k (i + 1)
theorem mat_find : ∀ (m : List (Int × Int)) (k : Int) (i : Nat), (mat m k i).map (·.2) = mfind m k
  | [], _, _ => rfl
  | (a, b) :: m, k, i => by
    simp only [mat, mfind]
    split
    · rfl
    · exact mat_find m k (i + 1)
theorem mat_le : ∀ (m : List (Int × Int)) (k : Int) (i : Nat) {j : Nat} {v : Int}, mat m k i = some (j, v) → i ≤ j
  | [], _, _, _, _, h => by cases h
  | (a, b) :: m, k, i, j, v, h => by
    simp only [mat] at h
    split at h
    · injection h with h; injection h with h _; omega
    · have := mat_le m k (i + 1) h; omega
theorem mat_put : ∀ (m : List (Int × Int)) (k v : Int) (i : Nat), mput m k v = match mat m k i with
    | some (j, _) => m.set (j - i) (k, v)
    | none => m ++ [(k, v)]
  | [], _, _, _ => rfl
  | (a, b) :: m, k, v, i => by
    simp only [mat, mput]
    split
    · simp
    · have ih := mat_put m k v (i + 1)
      rw [ih]
      cases hm : mat m k (i + 1) with
      | none => rfl
      | some p =>
        obtain ⟨j, u⟩ := p
        have := mat_le m k (i + 1) hm
        simp only
        rw [show j - i = (j - (i + 1)) + 1 from by omega, List.set_cons_succ]
theorem findNow_ok (k : Int) : ∀ (es : List MapEntry) (m : List (Int × Int)) (i : Nat), es.map (fun e => (e.key, e.val)) = m.map (fun p => (Value.int .i64 p.1, Value.int .i64 p.2)) → Instr.findNow (.int .i64) (.int .i64 k) es i = some ((mat m k i).map fun p => (p.1, .int .i64 p.2))
  | [], [], _, _ => rfl
  | [], _ :: _, _, h => by simp at h
  | _ :: _, [], _, h => by simp at h
  | e :: es, (a, b) :: m, i, h => by
    simp only [List.map_cons, List.cons.injEq, Prod.mk.injEq] at h
    obtain ⟨⟨h1, h2⟩, h3⟩ := h
    simp only [Instr.findNow, h1, h2, Instr.sameNow, if_true, mat]
    cases hk : (k == a) with
    | true => simp
    | false => simpa using findNow_ok k es m (i + 1) h3
section
variable {P : Program} {w : World}
theorem findKey_ok {t : TypeId} (hu : P.underlying t = some (.int .i64)) {k : Int} {es : List MapEntry} {m : List (Int × Int)} (h : es.map (fun e => (e.key, e.val)) = m.map (fun p => (Value.int .i64 p.1, Value.int .i64 p.2))) : (Instr.findKey t (.int .i64 k) es).run P w = .ok ((mat m k 0).map fun p => (p.1, Value.int .i64 p.2)) w := by
  unfold Instr.findKey
  simp only [Sem.run_bind, run_underlying hu, Result.andThen_ok, findNow_ok k es m 0 h, Sem.run_pure]
theorem checkKey_ok {t : TypeId} (hu : P.underlying t = some (.int .i64)) (b : Bool) (n : Nat) (v : Value) : (Instr.checkKey b (n + 1) t v).run P w = .ok () w := by
  unfold Instr.checkKey
  simp only [Sem.run_bind, run_underlying hu, Result.andThen_ok]
  cases v <;> rfl
theorem lookup_ok {t : TypeId} (ht : tMap P t = true) {b : Nat} {m : List (Int × Int)} (hm : MapRep w b m) (k : Int) (ok : Bool) : (Instr.lookup t (.map (some b)) (.int .i64 k) ok).run P w = .ok (if ok = true then .tuple #[.int .i64 ((mfind m k).getD 0), .bool (mfind m k).isSome] else .int .i64 ((mfind m k).getD 0)) w := by
  obtain ⟨kt, e, hu, hk, hz⟩ := tMap_some ht
  obtain ⟨es, cl, h1, h2, _⟩ := hm
  unfold Instr.lookup
  simp only [Sem.run_bind, run_underlying hu, Result.andThen_ok, getObj, Sem.run, h1, Sem.run_pure, checkKey_ok hk, findKey_ok hk h2]
  rw [← mat_find m k 0]
  cases hm : mat m k 0 with
  | none =>
    simp only [Option.map_none, Sem.run_bind, hz, Result.andThen_ok, Sem.run_pure, Option.getD_none, Option.isSome_none]
  | some p => simp only [Option.map_some, Sem.run_bind, Sem.run_pure, Result.andThen_ok, Option.getD_some, Option.isSome_some]
theorem keyStays_ok (k : Int) : (Instr.keyThatStays (.int .i64 k) (.int .i64 k)).run P w = .ok (.int .i64 k) w := by
  unfold Instr.keyThatStays
  have : Instr.sameBits 10000 (.int .i64 k) (.int .i64 k) = true := by simp [Instr.sameBits]
  rw [this]; rfl
theorem mat_key : ∀ (m : List (Int × Int)) (k : Int) (i : Nat) {j : Nat} {v : Int}, mat m k i = some (j, v) → m[j - i]? = some (k, v)
  | [], _, _, _, _, h => by cases h
  | (a, b) :: m, k, i, j, v, h => by
    simp only [mat] at h
    split at h
    · rename_i hk
      injection h with h; injection h with h h'
      subst h h'
      have : k = a := by simpa using hk
      subst this
      simp
    · have h1 := mat_le m k (i + 1) h
      have := mat_key m k (i + 1) h
      rw [show j - i = (j - (i + 1)) + 1 from by omega, List.getElem?_cons_succ]
      exact this
theorem update_ok {t : TypeId} (ht : tMap P t = true) {b : Nat} {m : List (Int × Int)} (hm : MapRep w b m) (k v : Int) : ∃ w', (Instr.mapUpdate t (.map (some b)) (.int .i64 k) (.int .i64 v)).run P w = .ok () w' ∧ MapRep w' b (mput m k v) ∧ w'.heap.size = w.heap.size ∧ (∀ b', b' ≠ b → w'.heap[b']? = w.heap[b']?) ∧ w'.os = w.os ∧ w'.tape = w.tape ∧ w'.output = w.output := by
  obtain ⟨kt, e, hu, hk, hz⟩ := tMap_some ht
  have hlt := hm.lt
  obtain ⟨es, cl, h1, h2, hnd, hbn⟩ := hm
  have set_ : ∀ es' cl', (setObj b (.map es' cl')).run P w = .ok () { w with heap := w.heap.set! b (.map es' cl') } := fun es' cl' => by
    simp [setObj, Sem.run, h1]
  have fin : ∀ es' cl', es'.toList.map (fun e => (e.key, e.val)) = (mput m k v).map (fun p => (Value.int .i64 p.1, Value.int .i64 p.2)) → ((es'.toList.map (·.born)).Nodup ∧ ∀ x ∈ es'.toList, x.born < cl') →
      MapRep { w with heap := w.heap.set! b (.map es' cl') } b (mput m k v) ∧ ({ w with heap := w.heap.set! b (.map es' cl') } : World).heap.size = w.heap.size ∧ (∀ b', b' ≠ b → ({ w with heap := w.heap.set! b (.map es' cl') } : World).heap[b']? = w.heap[b']?) ∧ True := fun es' cl' he hst => by
    refine ⟨⟨es', cl', by simp [hlt], he, hst⟩, by simp, fun b' hne => ?_, trivial⟩
    simp [Array.getElem?_setIfInBounds, Ne.symm hne]
  have hput := mat_put m k v 0
  cases hm : mat m k 0 with
  | none =>
    rw [hm] at hput
    have hE : (es.push { key := .int .i64 k, val := .int .i64 v, born := cl }).toList.map (fun e => (e.key, e.val)) = (mput m k v).map (fun p => (Value.int .i64 p.1, Value.int .i64 p.2)) := by
      rw [hput]; simp [h2]
    obtain ⟨q1, q2, q3, _⟩ := fin _ (cl + 1) hE ⟨by
      simp only [Array.toList_push, List.map_append, List.map_cons, List.map_nil]
      rw [List.nodup_append]
      refine ⟨hnd, by simp, fun a ha b hb => ?_⟩
      simp only [List.mem_singleton] at hb
      subst hb
      obtain ⟨x, hx, rfl⟩ := List.mem_map.1 ha
      have := hbn x hx
      omega, fun x hx => by
      simp only [Array.toList_push, List.mem_append, List.mem_singleton] at hx
      rcases hx with hx | rfl
      · have := hbn x hx; omega
      · exact Nat.lt_succ_self _⟩
    refine ⟨_, ?_, q1, q2, q3, rfl, rfl, rfl⟩
    unfold Instr.mapUpdate
    simp only [Sem.run_bind, run_underlying hu, Result.andThen_ok, getObj, Sem.run, h1, Sem.run_pure, checkKey_ok hk, findKey_ok hk h2, hm, Option.map_none, set_]
  | some p =>
    obtain ⟨j, u⟩ := p
    rw [hm] at hput
    simp only [Nat.sub_zero] at hput
    have hj := mat_key m k 0 hm
    simp only [Nat.sub_zero] at hj
    have hel : (es.toList.map (fun e => (e.key, e.val)))[j]? = some (.int .i64 k, .int .i64 u) := by rw [h2, List.getElem?_map, hj]; rfl
    rw [List.getElem?_map] at hel
    have hkey : ((es[j]?).map (·.key)).getD (.int .i64 k) = .int .i64 k := by
      rw [← Array.getElem?_toList]
      cases hq : es.toList[j]? with
      | none => rfl
      | some e' => rw [hq] at hel; simp at hel; simp [hel.1]
    have hE : (es.modify j fun e => { e with key := .int .i64 k, val := .int .i64 v }).toList.map (fun e => (e.key, e.val)) = (mput m k v).map (fun p => (Value.int .i64 p.1, Value.int .i64 p.2)) := by
      rw [hput]
      apply List.ext_getElem?
      intro i
      rw [Array.toList_modify, List.getElem?_map, List.getElem?_modify, List.getElem?_map, List.getElem?_set]
      have hi : (es.toList[i]?).map (fun e => (e.key, e.val)) = (m[i]?).map (fun p => (Value.int .i64 p.1, Value.int .i64 p.2)) := by rw [← List.getElem?_map, ← List.getElem?_map, h2]
      by_cases e : j = i
      · subst e
        rw [hj] at hi
        have hl := (List.getElem?_eq_some_iff.1 hj).1
        cases hq : es.toList[j]? with
        | none => rw [hq] at hi; simp at hi
        | some e' => simp [hl]
      · simp only [e, if_false]
        rw [← hi]
        cases es.toList[i]? <;> rfl
    have hB : (es.modify j fun e => { e with key := .int .i64 k, val := .int .i64 v }).toList.map (·.born) = es.toList.map (·.born) := by
      apply List.ext_getElem?
      intro i
      rw [Array.toList_modify, List.getElem?_map, List.getElem?_modify, List.getElem?_map]
      by_cases e : j = i
      · subst e; cases es.toList[j]? <;> simp
      · simp [e]
    obtain ⟨q1, q2, q3, _⟩ := fin _ cl hE ⟨by rw [hB]; exact hnd, fun x hx => by
      have : x.born ∈ es.toList.map (·.born) := by rw [← hB]; exact List.mem_map.2 ⟨x, hx, rfl⟩
      obtain ⟨y, hy, hyx⟩ := List.mem_map.1 this
      have := hbn y hy
      omega⟩
    refine ⟨_, ?_, q1, q2, q3, rfl, rfl, rfl⟩
    unfold Instr.mapUpdate
    simp only [Sem.run_bind, run_underlying hu, Result.andThen_ok, getObj, Sem.run, h1, Sem.run_pure, checkKey_ok hk, findKey_ok hk h2, hm, Option.map_some, hkey, keyStays_ok, set_]
end
section
variable {P : Program} {E : Ent} {S0 : Nat → Prop} {N : Nat} {σ : St} {a : Act} {w : World} {c : Ctx}
/-- One object is turned. -/
theorem Inv.turn (h : Inv P E S0 N σ a w c) {k0 : Key} (hk0 : c.D k0) {w' : World} (hsz : w'.heap.size = w.heap.size) (hoth : ∀ b, b ≠ c.τ k0 → w'.heap[b]? = w.heap[b]?) (hos : w'.os = w.os) (ht : w'.tape = w.tape) (ho : w'.output = w.output) {o : HO} (hob : HRep P w' c k0.tag o) : Inv P E S0 N (σ.put k0.tag o) a w' c := by
  refine h.step noKey (· = k0.tag) ⟨hos.trans h.below.os, ht.trans h.below.tape, ho.trans h.below.output, by rw [hsz]; exact h.below.size, fun k hk hm => (hoth k fun e => hm (e ▸ (h.ok.hD _ hk0).1)).trans (h.below.block k hk hm)⟩
    ⟨fun b hb => by rw [hsz]; exact h.ok.hS b hb, fun k hk => by rw [hsz]; exact h.ok.hD k hk, h.ok.inj⟩ (fun b hS => hoth b fun e => (h.ok.hD _ hk0).2.2 (e ▸ hS)) (fun _ h => h) h.sup (fun _ _ hp => by cases hp) (fun k _ => Agree.refl c k)
    (fun k hD hx => ⟨hoth _ fun e => hx (by rw [h.ok.inj _ _ hD hk0 e]), hD⟩) (fun _ hp => by cases hp) (by rw [st_kill_no]; rfl) (fun g o' hx hg => ?_) (fun g o' hx hg => ?_)
  · rw [st_kill_no]
    rw [hget_put, if_neg hx] at hg
    exact hg
  · rw [hget_put, if_pos hx] at hg
    injection hg with hg
    subst hg
    rw [hx]; exact hob
theorem int64_eq {x : PV} {X : Value} {n : Int} (r : RV P w c x X) (h : x.int64 = some n) : X = .int .i64 n := by
  unfold PV.int64 at h
  split at h
  · injection h with h; subst h; exact r.lit_eq
  · cases h
theorem entries_rep {h : HP} (objs : ∀ g o, h.get g = some o → HRep P w c g o) {x : PV} {X : Value} (r : RV P w c x X) {m : List (Int × Int)} (he : x.entries h = some m) : ∃ b, X = .map (some b) ∧ MapRep w b m := by
  cases r with
  | free _ _ hf =>
    cases hf with
    | fmap m' b hb hm => simp only [PV.entries, Option.some.injEq] at he; subst he; exact ⟨b, rfl, hm⟩
    | _ => simp [PV.entries] at he
  | mp g =>
    simp only [PV.entries] at he
    split at he
    · rename_i m' hg
      injection he with he; subst he
      exact ⟨_, rfl, (objs g _ hg).2⟩
    · cases he
  | _ => simp [PV.entries] at he
theorem makeMap_ok {o : Oper} {t : TypeId} (ho : o.op = .makeMap t none) (h : Inv P E S0 N σ a w c) (hd : ∀ k, o.dst = some k → k < N) : Does P E S0 N o a w (Res.put σ o.dst (.new (o.dst.getD 0) (.map []) (.mp (o.dst.getD 0)))) := by
  have hb : Below w.heap.size w (w.alloc (.map #[] 0)) := (Below.refl _ _).alloc (Nat.le_refl _) _
  have hexec : (execOp a.eval o).run P w = .ok (.value (.map (some w.heap.size))) (w.alloc (.map #[] 0)) := by
    unfold execOp
    simp only [ho, Option.map_none, Instr.makeMap, Sem.run_bind, Sem.run_pure, Result.andThen_ok, newObj, Sem.run]
    rfl
  let c' := c.lay (o.dst.getD 0) w.heap.size undef 0 True
  have hok : c'.Ok E.M (w.alloc (.map #[] 0)) := lay_ok h.ok hb.size (fun _ => ⟨h.below.mine (Nat.le_refl _), by simp, fun hS => by have := h.ok.hS _ hS; omega⟩) fun _ k' _ hg' e => by have := (h.ok.hD k' hg').2.1; omega
  have e1 : c'.τ (.top (o.dst.getD 0)) = w.heap.size := lay_top.1
  refine does_new (dst_small h hd) h hd hexec hb hok (fun _ => Iff.rfl) (fun k hk => ⟨lay_agree hk, (lay_D hk).2⟩) ⟨lay_top.2.2.2.2 trivial, ⟨#[], 0, by rw [e1]; exact heap_alloc_new w _, rfl, by simp, by simp⟩⟩ ?_
  have := RV.mp (P := P) (w := w.alloc (.map #[] 0)) (c := c') (o.dst.getD 0)
  rwa [e1] at this
end
end Go.VI
