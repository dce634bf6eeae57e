/- Every operation but a call of a function does what the evaluator says. -/
import Derived.Test.YtppmnjiibmomoaaVHMain
import Derived.Test.YtppmnjiibmomoaaVHMaps
set_option linter.unusedVariables false
set_option linter.unusedSimpArgs false
set_option linter.unusedSectionVars false
namespace Go.VI
open Go.RowKit

section
variable {P : Program} {E : Ent} {S0 : Nat → Prop} {N : Nat} {σ : St} {a : Act} {w : World} {c : Ctx}

theorem map_val {x : Option PV} {r : Res} (h : x.map Res.val = some r) : ∃ pv, x = some pv ∧ r = .val pv := by
  cases x with
  | none => simp at h
  | some pv => simp at h; exact ⟨pv, rfl, h.symm⟩

theorem flat_get {α : Type} (k : Nat) : ∀ (l : List α) (f : α → List Value), (∀ x ∈ l, (f x).length = k) → ∀ i j, j < k → (l.flatMap f)[i * k + j]? = (l[i]?).bind fun x => (f x)[j]?
  | [], f, _, i, j, _ => by simp
  | x :: l, f, h, i, j, hj => by
    have hx := h x (by simp)
    rw [List.flatMap_cons]
    cases i with
    | zero => simp only [Nat.zero_mul, Nat.zero_add]; rw [List.getElem?_append_left (by omega)]; simp
    | succ i =>
      rw [Nat.succ_mul, List.getElem?_append_right (by omega), hx, show i * k + k + j - k = i * k + j from by omega, flat_get k l f (fun y hy => h y (by simp [hy])) i j hj]
      simp
theorem run_buildSlice {t e : TypeId} {len : Nat} {parts : Array (Nat × Operand)} (ht : tElem P t = some e) (hidx : parts.toList.map (·.1) = List.range len) (hk : 0 < tSize P e) (hlim : len * tSize P e ≤ 16777216) (hrow : tRow P e = true)
    (hszp : ∀ p ∈ parts.toList, (a.eval p.2).cells.size = tSize P e) : (Instr.buildSlice t len (parts.map fun p => (p.1, a.eval p.2))).run P w = .ok (.slice (some ⟨w.heap.size, 0, none⟩) len len) (w.alloc (.cells (parts.toList.flatMap fun p => (a.eval p.2).cells.toList).toArray e)) := by
  obtain ⟨i, z, hi, hz, hsz, hby, hzs, hsize⟩ := tRow_some hrow
  have hlen : parts.toList.length = len := by have := congrArg List.length hidx; simpa using this
  let cells : List Value := parts.toList.flatMap fun p => (a.eval p.2).cells.toList
  have hfill : ∀ (l : List (Nat × Operand)) (k : Nat) (pre post : List Value), (∀ p ∈ l, (a.eval p.2).cells.size = tSize P e) → l.map (·.1) = List.range' k l.length → pre.length = k * tSize P e → post.length = l.length * tSize P e →
      Instr.fill (fun i => some (i * tSize P e, tSize P e)) (pre ++ post).toArray (l.map fun p => (p.1, a.eval p.2)) = some (pre ++ l.flatMap fun p => (a.eval p.2).cells.toList).toArray := by
    intro l
    induction l with
    | nil => intro k pre post _ _ _ hp; simp at hp; subst hp; simp [Instr.fill]
    | cons x l ih =>
      intro k pre post h1 h2 h3 h4
      obtain ⟨ix, x⟩ := x
      simp only [List.map_cons, List.length_cons, List.range'_succ, List.cons.injEq] at h2
      obtain ⟨rfl, h2⟩ := h2
      simp only [List.length_cons, Nat.succ_mul] at h4
      have hx := h1 (ix, x) (by simp)
      simp only at hx
      simp only [List.map_cons, Instr.fill]
      rw [if_neg (by simp only [Bool.or_eq_true, decide_eq_true_eq, List.size_toArray, List.length_append]; omega)]
      have e1 : (a.eval x).cells.zipIdx.foldl (fun cs (p : Value × Nat) => cs.setIfInBounds (ix * tSize P e + p.2) p.1) (pre ++ post).toArray = ((pre ++ (a.eval x).cells.toList) ++ post.drop (tSize P e)).toArray := by
        rw [← Array.foldl_toList, Array.toList_zipIdx]
        have st := fun i => setList_get (a.eval x).cells.toList (pre ++ post).toArray (ix * tSize P e) 0 i (by simp; omega)
        have hl : (a.eval x).cells.toList.length = tSize P e := by simp [hx]
        apply Array.ext'
        apply List.ext_getElem?
        intro m
        have hsz2 : (((a.eval x).cells.toList.zipIdx 0).foldl (fun cs (p : Value × Nat) => cs.setIfInBounds (ix * tSize P e + p.2) p.1) (pre ++ post).toArray).size = pre.length + post.length := by rw [(st 0).1]; simp
        by_cases hm : m < pre.length + post.length
        · have hget := (st m).2
          rw [Array.getElem?_toList, getD_lt (d := undef) (by rw [hsz2]; exact hm), hget]
          simp only [Nat.add_zero, hl]
          by_cases c1 : m < pre.length
          · rw [if_neg (by omega), List.append_assoc, List.getElem?_append_left c1]
            simp [Array.getD_eq_getD_getElem?, List.getElem?_append_left c1, List.getElem?_eq_getElem c1]
          · by_cases c2 : m < pre.length + tSize P e
            · rw [if_pos (by omega), List.append_assoc, List.getElem?_append_right (by omega), List.getElem?_append_left (by omega), h3]
              have : m - ix * tSize P e < (a.eval x).cells.toList.length := by omega
              rw [List.getD_eq_getElem?_getD, List.getElem?_eq_getElem this]
              rfl
            · rw [if_neg (by omega), List.getElem?_append_right (by simp; omega), List.getElem?_drop]
              have hp : tSize P e + (m - (pre ++ (a.eval x).cells.toList).length) = m - pre.length := by simp; omega
              rw [hp]
              have hm2 : m - pre.length < post.length := by omega
              simp [Array.getD_eq_getD_getElem?, List.getElem?_append_right (show pre.length ≤ m by omega), List.getElem?_eq_getElem hm2]
        · rw [List.getElem?_eq_none (by rw [Array.length_toList, hsz2]; omega), List.getElem?_eq_none]
          simp; omega
      rw [e1]
      have := ih (ix + 1) (pre ++ (a.eval x).cells.toList) (post.drop (tSize P e)) (fun p hp => h1 p (by simp [hp])) h2 (by simp [hx, h3, Nat.succ_mul]) (by simp; omega)
      rw [this]
      simp [List.append_assoc]
  have hfl := hfill parts.toList 0 [] ((Array.range (len * tSize P e)).map (z.cells[· % z.cells.size]!)).toList hszp (by rw [hidx, hlen, List.range_eq_range']) (by simp) (by simp [hlen])
  simp only [List.nil_append] at hfl
  have hzv : (zeroValue e).run P w = .ok z w := by simp [zeroValue, typeInfo, hi, hz]
  have hparts : (parts.map fun p => (p.1, a.eval p.2)).toList = parts.toList.map fun p => (p.1, a.eval p.2) := by simp
  have h24 : ¬ (len * tSize P e > 2 ^ 24) := by omega
  unfold Instr.buildSlice
  simp only [Sem.run_bind, run_underlying (tElem_some ht), Result.andThen_ok, run_sizeOf ⟨i, hi⟩, h24, if_false, hparts]
  by_cases h0 : len * tSize P e = 0
  · have hl0 : len = 0 := by rcases Nat.mul_eq_zero.1 h0 with h | h <;> omega
    have hp0 : parts.toList = [] := List.eq_nil_of_length_eq_zero (by omega)
    have hc0 : cells = [] := by simp [cells, hp0]
    simp only [h0, if_true, Sem.run_pure, Result.andThen_ok, hp0, List.map_nil, Instr.fill, newRow, newObj, Sem.run_bind, Sem.run, hc0]
    rw [hl0]
    have : Array.map (fun x => (#[] : Array Value)[x % (#[] : Array Value).size]!) (Array.range 0) = #[] := by simp
    rw [this]; rfl
  · simp only [h0, if_false, Sem.run_bind, hzv, Result.andThen_ok, Sem.run_pure]
    have e2 : (Array.map (fun x => z.cells[x % z.cells.size]!) (Array.range (len * tSize P e))) = ((Array.range (len * tSize P e)).map (z.cells[· % z.cells.size]!)).toList.toArray := by rw [Array.toArray_toList]
    rw [e2, hfl]
    simp only [newRow, newObj, Sem.run_bind, Sem.run, Result.andThen_ok, Sem.run_pure]
    rfl
/-- A slice written out. -/
theorem buildSlice_ok {o : Oper} {t e : TypeId} {len : Nat} {parts : Array (Nat × Operand)} (ho : o.op = .buildSlice t len parts) (ht : tElem P t = some e) (hidx : parts.toList.map (·.1) = List.range len) (hk : 0 < tSize P e) (hlim : len * tSize P e ≤ 16777216)
    (hrow : tRow P e = true) (hall : (parts.toList.all fun p => (pev σ p.2).cells.length == tSize P e && (pev σ p.2).cells.all PV.still) = true) (h : Inv P E S0 N σ a w c) (hd : ∀ k, o.dst = some k → k < N) :
    Does P E S0 N o a w (Res.put σ o.dst (.val (.sl (parts.toList.map fun p => (pev σ p.2).cells)))) := by
  obtain ⟨i, z, hi, hz, hsz, hby, hzs, hsize⟩ := tRow_some hrow
  have hlen : parts.toList.length = len := by have := congrArg List.length hidx; simpa using this
  -- the cells
  let cells : List Value := parts.toList.flatMap fun p => (a.eval p.2).cells.toList
  have each : ∀ p ∈ parts.toList, (pev σ p.2).cells.length = tSize P e ∧ (pev σ p.2).cells.all PV.still = true := fun p hp => by
    have := List.all_eq_true.1 hall p hp
    simpa using this
  have rep : ∀ p ∈ parts.toList, (a.eval p.2).cells.size = tSize P e ∧ ∀ (j : Nat) pv, (pev σ p.2).cells[j]? = some pv → RF w c.S pv ((a.eval p.2).cells.getD j undef) ∧ ((a.eval p.2).cells.getD j undef).oneCell' = true := fun p hp => by
    obtain ⟨q1, q2⟩ := each p hp
    obtain ⟨q3, q4⟩ := (h.ev p.2).cells (all_still_cell q2)
    exact ⟨by omega, fun j pv hg => ⟨(q4 j pv hg).1.toRF (still_free (List.all_eq_true.1 q2 pv (List.mem_of_getElem? hg))), (q4 j pv hg).2⟩⟩
  have hrun : (Instr.buildSlice t len (parts.map fun p => (p.1, a.eval p.2))).run P w = .ok (.slice (some ⟨w.heap.size, 0, none⟩) len len) (w.alloc (.cells cells.toArray e)) := run_buildSlice ht hidx hk hlim hrow fun p hp => (rep p hp).1
  have hexec : (execOp a.eval o).run P w = .ok (.value (.slice (some ⟨w.heap.size, 0, none⟩) len len)) (w.alloc (.cells cells.toArray e)) := by
    unfold execOp
    simp only [ho, Sem.run_bind, hrun, Result.andThen_ok, Sem.run_pure]
  have hb : Below w.heap.size w (w.alloc (.cells cells.toArray e)) := (Below.refl _ _).alloc (Nat.le_refl _) _
  have inv' := (h.ext hb).more (fun b => c.S b ∨ b = w.heap.size) (fun b hb => .inl hb) (fun b hb' => by rcases hb' with q | q; exact Nat.lt_of_lt_of_le (h.ok.hS b q) hb.size; simp [q]) (fun b hb' => by rcases hb' with q | q; exact h.sup b q; exact .inr (by rw [q]; exact h.below.mine (Nat.le_refl _)))
    (fun k hg hb' => by rcases hb' with q | q; exact (h.ok.hD k hg).2.2 q; have := (h.ok.hD k hg).2.1; omega)
  refine does_mut hd (.inl hexec) inv' (.free _ _ ?_)
  have hsz : ∀ p ∈ parts.toList, (a.eval p.2).cells.toList.length = tSize P e := fun p hp => by simpa using (rep p hp).1
  have hg : ∀ i j pv, getE (parts.toList.map fun p => (pev σ p.2).cells) i j = some pv → ∃ p, parts.toList[i]? = some p ∧ p ∈ parts.toList ∧ (pev σ p.2).cells[j]? = some pv ∧ j < tSize P e ∧ i < len ∧ cells[i * tSize P e + j]? = some ((a.eval p.2).cells.getD j undef) := by
    intro i j pv hg
    unfold getE at hg
    rw [List.getElem?_map] at hg
    cases hp : parts.toList[i]? with
    | none => simp [hp] at hg
    | some p =>
      simp only [hp, Option.map_some, Option.bind_some] at hg
      have hmem := List.mem_of_getElem? hp
      have hj : j < tSize P e := by
        rcases Nat.lt_or_ge j (pev σ p.2).cells.length with q | q
        · rw [(each p hmem).1] at q; exact q
        · rw [List.getElem?_eq_none q] at hg; cases hg
      have hi' : i < len := by
        rcases Nat.lt_or_ge i parts.toList.length with q | q
        · omega
        · rw [List.getElem?_eq_none q] at hp; cases hp
      refine ⟨p, rfl, hmem, hg, hj, hi', ?_⟩
      rw [flat_get (tSize P e) parts.toList (fun p => (a.eval p.2).cells.toList) hsz i j hj, hp]
      simp only [Option.bind_some]
      rw [Array.getElem?_toList]
      exact getD_lt (by have := (rep p hmem).1; omega)
  refine .sl _ (tSize P e) _ _ _ (fun i j => cells.getD (i * tSize P e + j) undef) (by simpa using hlen.symm) (fun l hl => ?_) hk (Nat.le_refl _) (fun _ => ⟨_, rfl, .inr rfl⟩) (fun ad had i j pv hg' => ?_) (fun i j pv hg' => ?_) (fun i j pv hg' => ?_)
  · rw [List.mem_map] at hl
    obtain ⟨p, hp, rfl⟩ := hl
    exact (each p hp).1
  · injection had with had
    subst had
    obtain ⟨p, _, _, _, _, _, q⟩ := hg i j pv hg'
    rw [add_lit, cell_of_row _ _ _ _ _ _ (heap_alloc_new w _), Nat.zero_add, List.getElem?_toArray, q, List.getD_eq_getElem?_getD, q]
    rfl
  · obtain ⟨p, _, hp, q1, _, _, q⟩ := hg i j pv hg'
    rw [List.getD_eq_getElem?_getD, q]
    exact ((rep p hp).2 j pv q1).2
  · obtain ⟨p, _, hp, q1, _, _, q⟩ := hg i j pv hg'
    rw [List.getD_eq_getElem?_getD, q]
    exact (((rep p hp).2 j pv q1).1).same (fun b hS => hb.block b (h.ok.hS b hS)) fun b hb => .inl hb

theorem pints_ok (h : Inv P E S0 N σ a w c) : ∀ (l : List Operand) {k : IntKind} {ns : List Int}, pints (l.map (pev σ)) = some (k, ns) → l.map a.eval = ns.map (Value.int k)
  | [], _, _, hp => by simp [pints] at hp
  | [x], k, ns, hp => by
    have rx := h.ev x
    simp only [List.map_cons, List.map_nil] at hp ⊢
    generalize pev σ x = v at hp rx
    unfold pints at hp
    split at hp
    · rename_i k1 n1 e
      simp only [Option.some.injEq, Prod.mk.injEq] at hp
      obtain ⟨rfl, rfl⟩ := hp
      simp only [List.cons.injEq, and_true] at e
      subst e
      rw [rx.lit_eq]; rfl
    · rename_i k1 n1 rest hne e
      simp only [List.cons.injEq] at e
      obtain ⟨_, e2⟩ := e
      subst e2
      simp [pints] at hp
    · cases hp
  | x :: y :: l, k, ns, hp => by
    have rx := h.ev x
    simp only [List.map_cons] at hp ⊢
    generalize pev σ x = v at hp rx
    unfold pints at hp
    split at hp
    · rename_i e; simp at e
    · rename_i k1 n1 rest hne e
      simp only [List.cons.injEq] at e
      obtain ⟨e1, e2⟩ := e
      subst e1 e2
      split at hp
      · rename_i k2 l2 hr
        split at hp
        · rename_i ek
          subst ek
          simp only [Option.some.injEq, Prod.mk.injEq] at hp
          obtain ⟨rfl, rfl⟩ := hp
          have ih := pints_ok h (y :: l) (by simpa using hr)
          simp only [List.map_cons] at ih
          rw [rx.lit_eq, ih]; rfl
        · cases hp
      · cases hp
    · cases hp
theorem pfold_ok {f : Int → Int → Int} {g : Value → Value → Sem Value} (hg : ∀ (k : IntKind) (x y : Int), g (.int k x) (.int k y) = pure (.int k (f x y))) (h : Inv P E S0 N σ a w c) {l : Array Operand} {r : Res} (hp : pfold f (pints (l.toList.map (pev σ))) = some r) :
    ∃ k n x rest, (l.map a.eval).toList = x :: rest ∧ (rest.foldlM g x).run P w = .ok (.int k n) w ∧ r = .val (.lit (.int k n)) := by
  cases hpi : pints (l.toList.map (pev σ)) with
  | none => rw [hpi] at hp; cases hp
  | some p =>
    obtain ⟨k, ns⟩ := p
    have e := pints_ok h l.toList hpi
    rw [hpi] at hp
    cases ns with
    | nil => cases hp
    | cons x rest =>
      simp only [pfold, Option.some.injEq] at hp
      refine ⟨k, rest.foldl f x, .int k x, rest.map (Value.int k), by rw [Array.toList_map, e]; rfl, ?_, hp.symm⟩
      clear e hp hpi
      induction rest generalizing x with
      | nil => rfl
      | cons y rest ih =>
        simp only [List.map_cons, List.foldlM_cons, List.foldl_cons, hg, Sem.run_bind, Sem.run_pure, Result.andThen_ok]
        exact ih (f x y)
theorem peop_ok {eqn : TypeId → Nat} (hE : ∀ t, 0 < eqn t → EqC P t (eqn t)) {o : Oper} {r : Res} (h : Inv P E S0 N σ a w c) (hd : ∀ k, o.dst = some k → k < N)
    (hr : peop P eqn σ (o.dst.getD 0) o.type o.op = some r) : Does P E S0 N o a w (r.put σ o.dst) := by
  generalize hop : o.op = op at hr
  unfold peop at hr
  split at hr
  case h_1 x =>
    injection hr with hr; subst hr
    exact does_value h hd (by unfold execOp; simp only [hop]; rfl) (h.ev x)
  case h_2 x =>
    have hexec : (execOp a.eval o).run P w = .ok (.value (a.eval x)) w := by unfold execOp; simp only [hop]; rfl
    split at hr
    · rename_i e hx ht
      split at hr
      case isFalse => cases hr
      rename_i hrow
      injection hr with hr; subst hr
      obtain ⟨i, z, hi, hz, hsz, hby, hzs, hsize⟩ := tRow_some hrow
      have rx := h.ev x
      rw [hx] at rx
      have hv : a.eval x = .slice none 0 0 := rx.nl_eq
      rw [hv] at hexec
      let c' := c.lay (o.dst.getD 0) 0 (.slice none 0 0) e False
      have hhd : c'.hd (.top (o.dst.getD 0)) = .slice none 0 0 := lay_top.2.1
      have hrep : HRep P w c' (o.dst.getD 0) (.row e [] []) := ⟨[], lay_top.2.2.1, by omega, by simp, by rw [hhd]; exact World.ownsRow_nil w 0 e _, fun b hb => by rw [hhd] at hb; simp [Value.ownBlock] at hb, by simp [getE], by simp [getE]⟩
      refine does_new (dst_small h hd) h hd hexec (Below.refl _ _) (lay_ok h.ok (Nat.le_refl _) (fun q => q.elim) fun q => q.elim) (fun _ => Iff.rfl) (fun k hk => ⟨lay_agree hk, (lay_D hk).2⟩) hrep ?_
      obtain ⟨xs', r'⟩ := hrep
      have := RV.row (P := P) (w := w) (c := c') (.top (o.dst.getD 0)) e r'.ty r'.hd_one
      rwa [hhd] at this
    · injection hr with hr; subst hr
      exact does_value h hd hexec (h.ev x)
  case h_3 c' x y =>
    split at hr
    · rename_i hc
      injection hr with hr; subst hr
      have hv := h.ev c'
      rw [hc] at hv
      have := hv.lit_eq
      exact does_value h hd (by unfold execOp; simp [hop, this, asBool]) (h.ev x)
    · rename_i hc
      injection hr with hr; subst hr
      have hv := h.ev c'
      rw [hc] at hv
      have := hv.lit_eq
      exact does_value h hd (by unfold execOp; simp [hop, this, asBool]) (h.ev y)
    · cases hr
  case h_4 e =>
    split at hr
    · rename_i z hz
      injection hr with hr; subst hr
      have hzv : (zeroValue e).run P w = .ok z w := by
        unfold tZero at hz
        cases hi : P.info? e with
        | none => simp [hi] at hz
        | some i => simp [hi] at hz; simp [zeroValue, typeInfo, hi, hz]
      obtain ⟨z1, z2⟩ := zero_cells (w := w) (c := c) (z := z)
      refine does_box (T := e) (vs := z.cells) h hd ?_ z1.symm (fun i pv hg => .free _ _ (z2 i pv hg)) (hasL_free _ _ (freeL_of fun i pv hg => (z2 i pv hg).free))
      unfold execOp
      simp only [hop, Instr.alloc, Sem.run_bind, hzv, Result.andThen_ok, Sem.run_pure, newVar, newRow]
      rfl
    · cases hr
  case h_5 e x =>
    split at hr
    case isFalse => cases hr
    rename_i hcell
    injection hr with hr; subst hr
    obtain ⟨q1, q2⟩ := (h.ev x).cells hcell
    refine does_box (T := e) (vs := (a.eval x).cells) h hd ?_ (by rw [killL_length, q1]) (fun i pv hg => ?_) (hasL_killL _ _)
    · unfold execOp
      simp only [hop, Instr.box, Sem.run_bind, Result.andThen_ok, Sem.run_pure, newVar, newRow]
      rfl
    · rw [killL_get] at hg
      cases hc : (pev σ x).cells[i]? with
      | none => simp [hc] at hg
      | some p => simp [hc] at hg; subst hg; exact (q2 i p hc).1.kill _
  case h_6 t parts =>
    split at hr
    case h_2 => cases hr
    rename_i z hz
    have key : ∀ cs, (match P.underlying t with
      | some (.struct fs) => if fs.toList.all (fun f => (P.info? f.type).isSome) then (pfill (fun i => (fs[i]?).map fun f => (f.offset, tSize P f.type)) (ofV z).cells (parts.toList.map fun p => (p.1, pev σ p.2))) else none
      | some (.array _ e) => if (P.info? e).isSome then (pfill (fun i => some (i * tSize P e, tSize P e)) (ofV z).cells (parts.toList.map fun p => (p.1, pev σ p.2))) else none
      | _ => none) = some cs → Does P E S0 N o a w (Res.put σ o.dst (.val (.agg cs))) := by
      intro cs hcs
      obtain ⟨v, q1, q2⟩ := build_ok hz h hcs
      refine does_value h hd ?_ q2
      unfold execOp
      simp only [hop, Sem.run_bind, q1, Result.andThen_ok, Sem.run_pure]
    split at hr
    · rename_i fs hu
      split at hr
      case isFalse => cases hr
      rename_i hall
      simp only [Option.map_eq_some_iff] at hr
      obtain ⟨cs, h1, rfl⟩ := hr
      exact key cs (by rw [hu]; simp only; rw [if_pos hall]; exact h1)
    · rename_i n e hu
      split at hr
      case isFalse => cases hr
      rename_i hall
      simp only [Option.map_eq_some_iff] at hr
      obtain ⟨cs, h1, rfl⟩ := hr
      exact key cs (by rw [hu]; simp only; rw [if_pos hall]; exact h1)
    · cases hr
  case h_7 t len parts =>
    split at hr
    case h_2 => cases hr
    rename_i e ht
    split at hr
    case isFalse => cases hr
    rename_i hc
    injection hr with hr; subst hr
    exact buildSlice_ok hop ht hc.1 hc.2.1 hc.2.2.1 hc.2.2.2.1 hc.2.2.2.2 h hd
  case h_8 t x =>
    split at hr
    case h_2 => cases hr
    rename_i agg hagg
    obtain ⟨pv, h1, rfl⟩ := map_val hr
    obtain ⟨v, q1, q2⟩ := pload_ok hagg h (h.ev x) h1
    exact does_value h hd (by unfold execOp; simp only [hop, Sem.run_bind, q1, Result.andThen_ok, Sem.run_pure]) q2
  case h_9 t ad x =>
    split at hr
    case h_2 => cases hr
    rename_i agg hagg
    exact pstore_ok hop hagg h hd hr
  case h_10 op t x y ty =>
    have rx := h.ev x
    have ry := h.ev y
    split at hr
    · rename_i xs ys hx hy
      rw [hx] at rx
      rw [hy] at ry
      split at hr
      case isFalse => cases hr
      rename_i hlen
      split at hr
      case h_2 => cases hr
      rename_i b hb
      have hE' : EqC P t xs.length := by rw [hlen.1]; exact hE t (by rw [← hlen.1]; exact hlen.2)
      split at hr
      · injection hr with hr; subst hr
        have := eq_ok (x := x) (y := y) hE' rx ry hb (.inl rfl)
        exact does_value h hd (by unfold execOp; simp only [hop]; rw [Sem.run_bind, this]; simp) (.free _ _ (.lit _))
      · injection hr with hr; subst hr
        have := eq_ok (x := x) (y := y) hE' rx ry hb (.inr rfl)
        exact does_value h hd (by unfold execOp; simp only [hop]; rw [Sem.run_bind, this]; simp) (.free _ _ (.lit _))
      · cases hr
    · obtain ⟨pv, h1, rfl⟩ := map_val hr
      obtain ⟨v, q1, q2, hg⟩ := pbin2_ok (op := op) (t := t) rx ry h1
      refine does_value h hd ?_ q2
      unfold execOp
      simp only [hop, Sem.run_bind, hg, q1, Result.andThen_ok, Sem.run_pure]
  case h_11 op t x =>
    obtain ⟨pv, h1, rfl⟩ := map_val hr
    obtain ⟨v, q1, q2⟩ := pun_ok (h.ev x) h1
    exact does_value h hd (by unfold execOp; simp only [hop, Sem.run_bind, q1, Result.andThen_ok, Sem.run_pure]) q2
  case h_12 src dst x =>
    split at hr
    case h_2 => cases hr
    rename_i d k k0 n hs hk hx
    injection hr with hr; subst hr
    have rx := h.ev x
    rw [hx] at rx
    have hv := rx.lit_eq
    have hu : P.underlying dst = some (.int k) := by
      unfold tInt at hk
      split at hk
      · rename_i he; injection hk with hk; subst hk; exact he
      · cases hk
    refine does_value h hd ?_ (.free _ _ (.lit _))
    unfold execOp
    simp only [hop, hv, convert, Sem.run_bind, run_underlying hs, run_underlying hu, Result.andThen_ok, Conv.intToInt, Sem.run_pure]
  case h_13 f first caps =>
    split at hr
    case isFalse => cases hr
    rename_i hfirst
    obtain rfl : first = #[] := by simpa using hfirst
    injection hr with hr; subst hr
    have hv : RV P w c (.fn f (caps.toList.map (pev σ))) (.func (.func f) #[] (caps.map a.eval)) := by
      refine .fn f _ _ (by simp) fun i pv hg => ?_
      simp only [List.getElem?_map] at hg
      cases hc : caps.toList[i]? with
      | none => simp [hc] at hg
      | some x =>
        simp [hc] at hg
        subst hg
        have : (caps.map a.eval).getD i undef = a.eval x := by
          rw [Array.getElem?_toList] at hc
          simp [Array.getD_eq_getD_getElem?, hc]
        rw [this]
        exact h.ev x
    exact does_value h hd (by unfold execOp; simp only [hop, Instr.makeFunc, Sem.run_bind, Sem.run_pure, Result.andThen_ok, List.map_toArray, List.map_nil]) hv
  case h_14 t l m =>
    split at hr
    case h_2 => cases hr
    rename_i e n k ht hl hm
    split at hr
    case h_2 => cases hr
    rename_i z hz
    split at hr
    case isFalse => cases hr
    rename_i hc
    injection hr with hr; subst hr
    exact make_ok hop ht hl hm hz hc.1 hc.2.1 hc.2.2.1 hc.2.2.2 (J := []) (fun _ _ h => nomatch h) h hd
  case h_15 t x lo hi =>
    split at hr
    case h_2 => cases hr
    rename_i e ht
    split at hr
    case isFalse => cases hr
    rename_i hinfo
    split at hr
    case h_2 => cases hr
    rename_i l h' hl hh
    obtain ⟨pv, h1, rfl⟩ := map_val hr
    exact slice_ok hop ht (Option.isSome_iff_exists.1 hinfo) hl hh h hd h1
  case h_16 st x f =>
    split at hr
    case h_2 => cases hr
    rename_i off ft hf
    split at hr
    case isTrue => cases hr
    rename_i hz
    obtain ⟨pv, h1, rfl⟩ := map_val hr
    obtain ⟨ad, q1, q2⟩ := padd_ok (h.ev x) h1
    unfold tFld at hf
    split at hf
    case h_2 => cases hf
    rename_i fs hu
    simp only [Option.map_eq_some_iff, Prod.mk.injEq] at hf
    obtain ⟨fd, hfd, rfl, rfl⟩ := hf
    have hinfo : ∃ i, P.info? fd.type = some i := by
      unfold tSize Program.cellsOf at hz
      cases hi : P.info? fd.type with
      | none => simp [hi] at hz
      | some i => exact ⟨i, rfl⟩
    refine does_value h hd ?_ q2
    unfold execOp
    simp only [hop, q1, Instr.fieldAt, Sem.run_bind, run_underlying hu, Result.andThen_ok, hfd, Instr.sureAddr, Sem.run_pure, fieldPlace, run_sizeOf hinfo, hz, if_false]
  case h_17 st x f =>
    split at hr
    case h_2 => cases hr
    rename_i off ft cs hf hx
    have rx := h.ev x
    rw [hx] at rx
    obtain ⟨vs, e1, e2, e3⟩ := agg_cells rx
    have hu : ∃ fs fd, P.underlying st = some (.struct fs) ∧ fs[f]? = some fd ∧ fd.offset = off ∧ fd.type = ft := by
      unfold tFld at hf
      split at hf
      case h_2 => cases hf
      rename_i fs hu
      simp only [Option.map_eq_some_iff, Prod.mk.injEq] at hf
      obtain ⟨fd, hfd, q1, q2⟩ := hf
      exact ⟨fs, fd, hu, hfd, q1, q2⟩
    obtain ⟨fs, fd, hu, hfd, rfl, rfl⟩ := hu
    have fin : ∀ agg pv, tAgg P fd.type = some agg → (if agg = true then (range? cs fd.offset (tSize P fd.type)).map PV.agg else cs[fd.offset]?) = some pv → Does P E S0 N o a w (Res.put σ o.dst (.val pv)) := by
      intro agg pv hagg hh
      obtain ⟨v, q1, q2⟩ := part_ok hagg e2 e3 hh
      refine does_value h hd ?_ q2
      unfold execOp
      simp only [hop, e1, Instr.field, Sem.run_bind, run_underlying hu, Result.andThen_ok, hfd, asAgg, Sem.run_pure, q1]
    split at hr
    · rename_i hagg
      simp only [Option.map_eq_some_iff] at hr
      obtain ⟨l, hl, rfl⟩ := hr
      exact fin true _ hagg (by simp [hl])
    · rename_i hagg
      obtain ⟨pv, h1, rfl⟩ := map_val hr
      exact fin false _ hagg h1
    · cases hr
  case h_18 t x ix =>
    split at hr
    case h_3 => cases hr
    case h_1 =>
      rename_i e i ht hi
      split at hr
      case isFalse => cases hr
      rename_i hinfo
      obtain ⟨pv, h1, rfl⟩ := map_val hr
      obtain ⟨k, hk⟩ := int_of_pidx (h.ev ix) hi
      obtain ⟨v, q1, q2⟩ := pindexAddr_ok (k := k) ht (Option.isSome_iff_exists.1 hinfo) h.objs (h.ev x) h1
      exact does_value h hd (by unfold execOp; simp only [hop, hk, Sem.run_bind, q1, Result.andThen_ok, Sem.run_pure]) q2
    case h_2 =>
      rename_i i ht0 hi
      split at hr
      case h_2 => cases hr
      rename_i n e ht
      split at hr
      case isFalse => cases hr
      rename_i hlt
      obtain ⟨pv, h1, rfl⟩ := map_val hr
      obtain ⟨k, hk⟩ := int_of_pidx (h.ev ix) hi
      obtain ⟨ad, q1, q2⟩ := padd_ok (h.ev x) h1
      have hu : P.underlying t = some (.array n e) := by
        unfold tArr at ht
        split at ht
        · rename_i he; simp at ht; obtain ⟨rfl, rfl⟩ := ht; exact he
        · cases ht
      have h2 : (0 : Int) ≤ (i : Int) ∧ (i : Int) < (n : Int) := by omega
      refine does_value h hd ?_ q2
      unfold execOp
      simp only [hop, hk, q1, Instr.indexAt, asIntOf, Instr.sureAddr, Sem.run_bind, Sem.run_pure, Result.andThen_ok, run_underlying hu, h2, and_self, if_true, run_sizeOf (Option.isSome_iff_exists.1 hlt.2), Int.toNat_natCast]
  case h_19 t x ix =>
    split at hr
    case h_2 => cases hr
    rename_i n e i cs ht hi hx
    have rx := h.ev x
    rw [hx] at rx
    obtain ⟨vs, e1, e2, e3⟩ := agg_cells rx
    obtain ⟨k, hk⟩ := int_of_pidx (h.ev ix) hi
    split at hr
    case isFalse => cases hr
    rename_i hlt
    have hu : P.underlying t = some (.array n e) := by
      unfold tArr at ht
      split at ht
      · rename_i he; simp at ht; obtain ⟨rfl, rfl⟩ := ht; exact he
      · cases ht
    have fin : ∀ agg pv, tAgg P e = some agg → (if agg = true then (range? cs (i * tSize P e) (tSize P e)).map PV.agg else cs[i * tSize P e]?) = some pv → Does P E S0 N o a w (Res.put σ o.dst (.val pv)) := by
      intro agg pv hagg hh
      obtain ⟨v, q1, q2⟩ := part_ok hagg e2 e3 hh
      refine does_value h hd ?_ q2
      have h2 : (0 : Int) ≤ (i : Int) ∧ (i : Int) < (n : Int) := by omega
      unfold execOp
      simp only [hop, e1, hk, Instr.index, asIntOf, Sem.run_bind, run_underlying hu, Result.andThen_ok, Sem.run_pure, h2, and_self, if_true, run_sizeOf (info_of_agg hagg), Int.toNat_natCast, q1]
    split at hr
    · rename_i hagg
      simp only [Option.map_eq_some_iff] at hr
      obtain ⟨l, hl, rfl⟩ := hr
      exact fin true _ hagg (by simp [hl])
    · rename_i hagg
      obtain ⟨pv, h1, rfl⟩ := map_val hr
      exact fin false _ hagg h1
    · cases hr
  case h_20 x i =>
    split at hr
    case h_2 => cases hr
    rename_i cs hx
    obtain ⟨pv, h1, rfl⟩ := map_val hr
    have rx := h.ev x
    rw [hx] at rx
    obtain ⟨vs, e1, e2, e3⟩ := tup_cells rx
    have hi : i < cs.length := by
      rcases Nat.lt_or_ge i cs.length with hh | hh
      · exact hh
      · rw [List.getElem?_eq_none hh] at h1; cases h1
    refine does_value h hd ?_ (e3 i pv h1)
    unfold execOp
    simp only [hop, e1, Instr.extract, getD_lt (d := undef) (show i < vs.size by omega), Sem.run_bind, Sem.run_pure, Result.andThen_ok]
  case h_21 t =>
    split at hr
    case isFalse => cases hr
    injection hr with hr; subst hr
    exact makeMap_ok hop h hd
  case h_22 t x k ok =>
    split at hr
    case isFalse => cases hr
    rename_i ht
    split at hr
    case h_2 => cases hr
    rename_i m kk hm hk
    obtain ⟨b, hX, hrep⟩ := entries_rep h.objs (h.ev x) hm
    have hK := int64_eq (h.ev k) hk
    have hrun := lookup_ok ht hrep kk ok
    have hexec : ∀ v, (Instr.lookup t (.map (some b)) (.int .i64 kk) ok).run P w = .ok v w → (execOp a.eval o).run P w = .ok (.value v) w := fun v hv => by
      unfold execOp
      simp only [hop, hX, hK, Sem.run_bind, hv, Result.andThen_ok, Sem.run_pure]
    split at hr
    · rename_i hok
      injection hr with hr; subst hr
      rw [if_pos hok] at hrun
      refine does_value h hd (hexec _ hrun) (.free _ _ (.tup _ _ rfl fun i pv hg => ?_))
      match i, hg with
      | 0, hg => simp at hg; subst hg; exact .lit _
      | 1, hg => simp at hg; subst hg; exact .lit _
    · rename_i hok
      injection hr with hr; subst hr
      rw [if_neg hok] at hrun
      exact does_value h hd (hexec _ hrun) (.free _ _ (.lit _))
  case h_23 t x k v =>
    split at hr
    case isFalse => cases hr
    rename_i ht
    split at hr
    case h_2 => cases hr
    rename_i g kk vv hx hk hv
    split at hr
    case h_2 => cases hr
    rename_i m hg
    injection hr with hr; subst hr
    have rx := h.ev x
    rw [hx] at rx
    have hX : a.eval x = .map (some (c.τ (.top g))) := by
      generalize a.eval x = X at rx
      cases rx with
      | free _ _ hf => cases hf
      | mp => rfl
    have hK := int64_eq (h.ev k) hk
    have hV := int64_eq (h.ev v) hv
    obtain ⟨hD, hrep⟩ := h.objs g _ hg
    obtain ⟨w', q1, q2, q3, q4, q5, q6, q7⟩ := update_ok ht hrep kk vv
    refine does_mut (v := undef) (c' := c) hd (.inr ⟨?_, rfl⟩) (h.turn (k0 := .top g) hD q3 q4 q5 q6 q7 ⟨hD, q2⟩) (.free _ _ (.lit _))
    unfold execOp
    simp only [hop, hX, hK, hV, Sem.run_bind, q1, Result.andThen_ok, Sem.run_pure]
  case h_24 t x k v =>
    split at hr
    case isFalse => cases hr
    rename_i ht
    split at hr
    case h_2 => cases hr
    rename_i g kk vv hx hk hv
    split at hr
    case h_2 => cases hr
    rename_i m hg
    injection hr with hr; subst hr
    have rx := h.ev x
    rw [hx] at rx
    have hX : a.eval x = .map (some (c.τ (.top g))) := by
      generalize a.eval x = X at rx
      cases rx with
      | free _ _ hf => cases hf
      | mp => rfl
    have hK := int64_eq (h.ev k) hk
    have hV := int64_eq (h.ev v) hv
    obtain ⟨hD, hrep⟩ := h.objs g _ hg
    obtain ⟨w', q1, q2, q3, q4, q5, q6, q7⟩ := update_ok ht hrep kk vv
    refine does_mut (v := undef) (c' := c) hd (.inr ⟨?_, rfl⟩) (h.turn (k0 := .top g) hD q3 q4 q5 q6 q7 ⟨hD, q2⟩) (.free _ _ (.lit _))
    unfold execOp
    simp only [hop, hX, hK, hV, Sem.run_bind, q1, Result.andThen_ok, Sem.run_pure]
  case h_25 cl =>
    obtain ⟨callee, args, argTypes⟩ := cl
    unfold pcallB at hr
    simp only at hr
    split at hr
    · split at hr
      case h_2 => cases hr
      rename_i x t ha ht
      obtain rfl : args = #[x] := Array.toList_inj.1 ha
      obtain rfl : argTypes = #[t] := Array.toList_inj.1 ht
      have hexec : ∀ n, (Builtin.len_ #[t] o.type #[a.eval x]).run P w = .ok (.int .i64 n) w → (execOp a.eval o).run P w = .ok (.value (.int .i64 n)) w := by
        intro n hrun
        unfold execOp
        simp only [hop, resolve, invoke, builtin, Sem.run_bind, Sem.run_pure, Result.andThen_ok, List.map_toArray, List.map_cons, List.map_nil, hrun]
      split at hr
      · rename_i e hu
        simp only [Option.map_eq_some_iff] at hr
        obtain ⟨n, hn, rfl⟩ := hr
        exact does_value h hd (hexec n (plen_ok hu h.objs (h.ev x) hn _)) (.free _ _ (.lit _))
      · rename_i hu
        simp only [Option.map_eq_some_iff] at hr
        obtain ⟨n, hn, rfl⟩ := hr
        exact does_value h hd (hexec n (plenS_ok hu (h.ev x) hn _)) (.free _ _ (.lit _))
      · cases hr
    · split at hr
      case h_2 => cases hr
      rename_i s x t t' ha ht
      obtain rfl : args = #[s, x] := Array.toList_inj.1 ha
      obtain rfl : argTypes = #[t, t'] := Array.toList_inj.1 ht
      split at hr
      case isFalse => cases hr
      rename_i he
      subst he
      split at hr
      case h_2 => cases hr
      rename_i e ht2
      split at hr
      case isFalse => cases hr
      rename_i hrow
      exact pappend_ok hop ht2 hrow h hd hr
    · obtain ⟨k, n, x, rest, q0, q1, q2⟩ := pfold_ok (f := imax) (g := Builtin.max2) (fun k a b => rfl) h hr
      subst q2
      refine does_value h hd ?_ (.free _ _ (.lit _))
      unfold execOp
      simp only [hop, resolve, invoke, builtin, Sem.run_bind, Sem.run_pure, Result.andThen_ok, Builtin.max_]
      simp only [q0, q1, Sem.run_bind, Sem.run_pure, Result.andThen_ok]
    · obtain ⟨k, n, x, rest, q0, q1, q2⟩ := pfold_ok (f := imin) (g := Builtin.min2) (fun k a b => rfl) h hr
      subst q2
      refine does_value h hd ?_ (.free _ _ (.lit _))
      unfold execOp
      simp only [hop, resolve, invoke, builtin, Sem.run_bind, Sem.run_pure, Result.andThen_ok, Builtin.min_]
      simp only [q0, q1, Sem.run_bind, Sem.run_pure, Result.andThen_ok]
    · cases hr
  case h_26 x =>
    have rx := h.ev x
    have key : ∀ p, a.eval x = .pointer (some p) → (execOp a.eval o).run P w = .ok (.value (a.eval x)) w := fun p hp => by
      unfold execOp
      simp only [hop, hp]; rfl
    split at hr
    · rename_i g off hx
      injection hr with hr; subst hr
      rw [hx] at rx
      have : ∃ p, a.eval x = .pointer (some p) := by
        generalize a.eval x = X at rx
        cases rx with
        | free _ _ hf => cases hf
        | ptr => exact ⟨_, rfl⟩
      obtain ⟨p, hp⟩ := this
      exact does_value h hd (key p hp) rx
    · rename_i cs off hx
      injection hr with hr; subst hr
      rw [hx] at rx
      have : ∃ p, a.eval x = .pointer (some p) := by
        generalize a.eval x = X at rx
        cases rx with
        | free _ _ hf => cases hf with
          | vptr => exact ⟨_, rfl⟩
      obtain ⟨p, hp⟩ := this
      exact does_value h hd (key p hp) rx
    · rename_i kk e i off hx
      injection hr with hr; subst hr
      rw [hx] at rx
      have : ∃ p, a.eval x = .pointer (some p) := by
        generalize a.eval x = X at rx
        cases rx with
        | free _ _ hf => cases hf
        | rptr => exact ⟨_, rfl⟩
      obtain ⟨p, hp⟩ := this
      exact does_value h hd (key p hp) rx
    · cases hr
  case h_27 => cases hr
end
end Go.VI
