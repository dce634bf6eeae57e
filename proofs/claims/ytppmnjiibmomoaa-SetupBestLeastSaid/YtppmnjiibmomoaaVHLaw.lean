/- From contracts to the given statements: the arguments are read out of memory; what they read as stays. -/
import Derived.Test.YtppmnjiibmomoaaVHGen
import Derived.ProofKit
set_option linter.unusedVariables false
set_option linter.unusedSimpArgs false
set_option linter.unusedSectionVars false
namespace Go.VI
open Go.RowKit Go.ChangeShapes

def RFl (w : World) (S : Nat → Prop) (ps : List PV) (vs : List Value) : Prop := ps.length = vs.length ∧ ∀ (i : Nat) p, ps[i]? = some p → RF w S p (vs.getD i undef) ∧ (vs.getD i undef).oneCell' = true
theorem RFl_nil {w : World} {S : Nat → Prop} {vs : List Value} (h : vs.length = 0) : RFl w S [] vs := ⟨h.symm, by simp⟩
theorem RFl_cons {w : World} {S : Nat → Prop} {p q : List PV} {vs : List Value} {o n : Nat} (h1 : RFl w S p ((vs.drop o).take n)) (hn : p.length = n) (h2 : RFl w S q (vs.drop (o + n))) : RFl w S (p ++ q) (vs.drop o) := by
  obtain ⟨a1, a2⟩ := h1
  obtain ⟨b1, b2⟩ := h2
  have hl : o + n ≤ vs.length ∨ n = 0 := by simp at a1; omega
  refine ⟨by simp at a1 b1 ⊢; omega, fun i x hx => ?_⟩
  by_cases hi : i < p.length
  · rw [List.getElem?_append_left hi] at hx
    have := a2 i x hx
    rw [List.getD_eq_getElem?_getD, List.getElem?_take, if_pos (by omega)] at this
    rwa [List.getD_eq_getElem?_getD]
  · rw [List.getElem?_append_right (by omega)] at hx
    have := b2 _ x hx
    rw [List.getD_eq_getElem?_getD, List.getElem?_drop] at this
    rw [List.getD_eq_getElem?_getD, List.getElem?_drop]
    rwa [show o + n + (i - p.length) = o + i from by omega] at this

/-- Whatever reads as data of type t holds some a as c lays it. -/
def Rd {α : Type} (P : Program) (t : TypeId) (c : α → List PV) (R : α → Prop) : Prop :=
  ∀ {H : Type} {enc : TypeId × Value → H} {W : World} {sp : Nat → Bool} {fuel : Nat} {cs : List Value} {x : DataW H × List MemPlace}, DataW.trod enc P W 0 sp true fuel t cs = some x → ∃ a : α, R a ∧ RFl W (fun b => b < W.heap.size) (c a) cs
/-- an integer of 64 bits -/
def R64 (n : Int) : Prop := -9223372036854775808 ≤ n ∧ n ≤ 9223372036854775807
def RL {α : Type} (R : α → Prop) (l : List α) : Prop := l.length ≤ 9223372036854775807 ∧ ∀ x ∈ l, R x
def RT {α : Type} (_ : α) : Prop := True
section
variable {P : Program} {t : TypeId}
theorem one_RFl {W : World} {S : Nat → Prop} {p : PV} {v : Value} (h : RF W S p v) (h1 : v.oneCell' = true) : RFl W S [p] [v] := ⟨rfl, fun i q hq => by
  cases i with
  | zero => simp at hq; subst hq; exact ⟨h, h1⟩
  | succ i => simp at hq⟩
theorem mapM_some {α β : Type} {f : α → Option β} : ∀ {l : List α} {ys : List β}, l.mapM f = some ys → ys.length = l.length ∧ ∀ i : Nat, (l[i]?).bind f = ys[i]?
  | [], ys, h => by simp at h; subst h; simp
  | x :: l, ys, h => by
    rw [List.mapM_cons] at h
    simp only [bind, Option.bind_eq_some_iff] at h
    obtain ⟨y, hy, zs, hz, he⟩ := h
    simp only [pure, Option.some.injEq] at he
    subst he
    obtain ⟨h1, h2⟩ := mapM_some hz
    refine ⟨by simp [h1], fun i => ?_⟩
    cases i with
    | zero => simp [hy]
    | succ i => simpa using h2 i
theorem rd_int {k : IntKind} (hu : P.underlying t = some (.int k)) : Rd P t (cK k) RT := by
  intro H enc W sp fuel cs x h
  cases fuel with
  | zero => simp [DataW.trod] at h
  | succ fuel =>
    unfold DataW.trod at h
    rw [hu] at h
    split at h <;> first | (rename_i he; simp at he; done) | skip
    · rename_i k0 k' n he
      simp only [Option.some.injEq, TypeDesc.int.injEq] at he
      subst he
      split at h
      · rename_i hk
        obtain ⟨rfl, _⟩ := hk
        exact ⟨n, trivial, one_RFl (.lit _) rfl⟩
      · cases h
    · cases h
theorem rd_i64 (hu : P.underlying t = some (.int .i64)) : Rd P t cI R64 := by
  intro H enc W sp fuel cs x h
  cases fuel with
  | zero => simp [DataW.trod] at h
  | succ fuel =>
    unfold DataW.trod at h
    rw [hu] at h
    split at h <;> first | (rename_i he; simp at he; done) | skip
    · rename_i k0 k' n he
      simp only [Option.some.injEq, TypeDesc.int.injEq] at he
      subst he
      split at h
      · rename_i hk
        obtain ⟨rfl, hw⟩ := hk
        refine ⟨n, ?_, one_RFl (.lit _) rfl⟩
        simp [Lit.wf, IntKind.has, IntKind.min, IntKind.max, IntKind.signed, IntKind.bits] at hw
        exact hw
      · cases h
    · cases h
theorem rd_bool (hu : P.underlying t = some .bool) : Rd P t cB RT := by
  intro H enc W sp fuel cs x h
  cases fuel with
  | zero => simp [DataW.trod] at h
  | succ fuel =>
    unfold DataW.trod at h
    rw [hu] at h
    split at h <;> first | (rename_i he; simp at he; done) | skip
    · rename_i b he
      exact ⟨b, trivial, one_RFl (.lit _) rfl⟩
    · cases h
theorem rd_str (hu : P.underlying t = some .string) : Rd P t cStr RT := by
  intro H enc W sp fuel cs x h
  cases fuel with
  | zero => simp [DataW.trod] at h
  | succ fuel =>
    unfold DataW.trod at h
    rw [hu] at h
    split at h <;> first | (rename_i he; simp at he; done) | skip
    · rename_i s he
      exact ⟨s, trivial, one_RFl (.lit _) rfl⟩
    · cases h
theorem rd_fields {fs : Array Field} (hu : P.underlying t = some (.struct fs)) {H : Type} {enc : TypeId × Value → H} {W : World} {sp : Nat → Bool} {fuel : Nat} {cs : List Value} {x : DataW H × List MemPlace} (h : DataW.trod enc P W 0 sp true fuel t cs = some x) :
    cs.length = P.cellsOf t ∧ ∀ f ∈ fs.toList, ∃ fu y, DataW.trod enc P W 0 sp true fu f.type ((cs.drop f.offset).take (P.cellsOf f.type)) = some y := by
  cases fuel with
  | zero => simp [DataW.trod] at h
  | succ fuel =>
    unfold DataW.trod at h
    rw [hu] at h
    split at h <;> first | (rename_i he; simp at he; done) | skip
    · rename_i fs' he
      simp only [Option.some.injEq, TypeDesc.struct.injEq] at he
      subst he
      split at h
      case isFalse => cases h
      rename_i hl
      refine ⟨hl, fun f hf => ?_⟩
      simp only [Option.map_eq_some_iff] at h
      obtain ⟨ys, hm, _⟩ := h
      refine ⟨fuel, ?_⟩
      obtain ⟨i, hi⟩ := List.mem_iff_getElem?.1 hf
      have := (mapM_some hm).2 i
      rw [hi] at this
      simp only [Option.bind_some] at this
      have hlt : i < ys.length := by rw [(mapM_some hm).1]; exact (List.getElem?_eq_some_iff.1 hi).1
      rw [List.getElem?_eq_getElem hlt] at this
      exact ⟨_, this⟩
    · exact (‹∀ fs_1 : Array Field, some (TypeDesc.struct fs) = some (TypeDesc.struct fs_1) → False› fs rfl).elim
theorem rd_field {fs : Array Field} (hu : P.underlying t = some (.struct fs)) {H : Type} {enc : TypeId × Value → H} {W : World} {sp : Nat → Bool} {fuel : Nat} {cs : List Value} {x : DataW H × List MemPlace} (h : DataW.trod enc P W 0 sp true fuel t cs = some x)
    (i ty off n : Nat) (hi : (fs.toList[i]?).map (fun f => (f.type, f.offset, P.cellsOf f.type)) = some (ty, off, n)) : ∃ fu y, DataW.trod enc P W 0 sp true fu ty ((cs.drop off).take n) = some y := by
  obtain ⟨f, h1, h2⟩ := Option.map_eq_some_iff.1 hi
  simp only [Prod.mk.injEq] at h2
  obtain ⟨rfl, rfl, rfl⟩ := h2
  exact (rd_fields hu h).2 f (List.mem_of_getElem? h1)
theorem cells?_spec {W : World} {a : Addr} {n : Nat} {cs : List Value} (h : W.cells? 0 a n = some cs) : cs.length = n ∧ ∀ j, j < n → W.cell? (a.add j) = cs[j]? := by
  unfold World.cells? at h
  rw [if_pos (Nat.zero_le _)] at h
  obtain ⟨h1, h2⟩ := mapM_some h
  refine ⟨by simpa using h1, fun j hj => ?_⟩
  have := h2 j
  rw [List.getElem?_range hj] at this
  exact this
theorem rows_of {α : Type} {W : World} {c : α → List PV} {R : α → Prop} {a : Addr} {size : Nat} : ∀ (len : Nat), (∀ i, i < len → ∃ x cs, R x ∧ W.cells? 0 (a.add (i * size)) size = some cs ∧ RFl W (fun b => b < W.heap.size) (c x) cs) →
    ∃ l : List α, l.length = len ∧ ∀ (i : Nat) x, l[i]? = some x → ∃ cs, R x ∧ W.cells? 0 (a.add (i * size)) size = some cs ∧ RFl W (fun b => b < W.heap.size) (c x) cs
  | 0, _ => ⟨[], rfl, by simp⟩
  | n + 1, h => by
    obtain ⟨l, hl, hr⟩ := rows_of n fun i hi => h i (by omega)
    obtain ⟨x, hx⟩ := h n (by omega)
    refine ⟨l ++ [x], by simp [hl], fun i y hy => ?_⟩
    rcases Nat.lt_or_ge i l.length with q | q
    · rw [List.getElem?_append_left q] at hy; exact hr i y hy
    · rw [List.getElem?_append_right q] at hy
      have : i = n := by
        have := (List.getElem?_eq_some_iff.1 hy).1
        simp at this; omega
      subst this
      rw [hl, Nat.sub_self] at hy
      simp at hy; subst hy; exact hx
theorem rd_slice {α : Type} {e : TypeId} {c : α → List PV} {R : α → Prop} (hu : P.underlying t = some (.slice e)) (he : Rd P e c R) (hs : ∀ x, (c x).length = P.cellsOf e) (h0 : 0 < P.cellsOf e) : Rd P t (cS c) (RL R) := by
  intro H enc W sp fuel cs x h
  cases fuel with
  | zero => simp [DataW.trod] at h
  | succ fuel =>
    unfold DataW.trod at h
    rw [hu] at h
    split at h <;> first | (rename_i he; simp at he; done) | skip
    · exact ⟨[], ⟨by simp, by simp⟩, one_RFl (RF.sl_nil W _) rfl⟩
    · rename_i e' a len cap hh
      simp only [Option.some.injEq, TypeDesc.slice.injEq] at hh
      subst hh
      simp only at h
      split at h
      case isFalse => cases h
      rename_i hc
      simp only [Option.bind_eq_some_iff] at h
      obtain ⟨elems, hm, _⟩ := h
      obtain ⟨m1, m2⟩ := mapM_some hm
      obtain ⟨l, hl, hr⟩ := rows_of (c := c) (R := R) (a := a) (W := W) (size := P.cellsOf e) len fun i hi => by
        have := m2 i
        rw [List.getElem?_range hi] at this
        have hlt : i < elems.length := by rw [m1]; simpa using hi
        rw [List.getElem?_eq_getElem hlt] at this
        simp only [Option.bind_some, Option.bind_eq_some_iff] at this
        obtain ⟨cs, h1, h2⟩ := this
        obtain ⟨y, hR, hy⟩ := he h2
        exact ⟨y, cs, hR, h1, hy⟩
      refine ⟨l, ⟨?_, fun y hy => ?_⟩, one_RFl ?_ rfl⟩
      · have := hc.2.1; have := hc.2.2; unfold maxLen at *; omega
      · obtain ⟨i, hi⟩ := List.mem_iff_getElem?.1 hy
        obtain ⟨_, hR, _⟩ := hr i y hi
        exact hR
      have hg : ∀ i j pv, getE (l.map c) i j = some pv → ∃ x cs, l[i]? = some x ∧ W.cells? 0 (a.add (i * P.cellsOf e)) (P.cellsOf e) = some cs ∧ RFl W (fun b => b < W.heap.size) (c x) cs ∧ (c x)[j]? = some pv := by
        intro i j pv h
        unfold getE at h
        rw [List.getElem?_map] at h
        cases hi : l[i]? with
        | none => rw [hi] at h; simp at h
        | some x =>
          rw [hi] at h
          obtain ⟨cs, _, q1, q2⟩ := hr i x hi
          exact ⟨x, cs, rfl, q1, q2, by simpa using h⟩
      have key : ∀ i j pv, getE (l.map c) i j = some pv → W.cell? (a.add (i * P.cellsOf e + j)) = some ((((W.cells? 0 (a.add (i * P.cellsOf e)) (P.cellsOf e)).getD []).getD j undef)) ∧ RF W (fun b => b < W.heap.size) pv (((W.cells? 0 (a.add (i * P.cellsOf e)) (P.cellsOf e)).getD []).getD j undef) ∧ (((W.cells? 0 (a.add (i * P.cellsOf e)) (P.cellsOf e)).getD []).getD j undef).oneCell' = true := by
        intro i j pv h
        obtain ⟨x, cs, q1, q2, q3, q4⟩ := hg i j pv h
        obtain ⟨s1, s2⟩ := cells?_spec q2
        have hj : j < P.cellsOf e := by rw [← hs x]; exact (List.getElem?_eq_some_iff.1 q4).1
        rw [q2]
        simp only [Option.getD_some]
        refine ⟨?_, q3.2 j pv q4⟩
        rw [← add_add, s2 j hj, List.getD_eq_getElem?_getD, List.getElem?_eq_getElem (by omega)]
        rfl
      refine .sl (l.map c) (P.cellsOf e) (some a) len cap (fun i j => (((W.cells? 0 (a.add (i * P.cellsOf e)) (P.cellsOf e)).getD []).getD j undef)) (by simp [hl]) (fun r hr => ?_) h0 hc.2.1 (fun hne => ⟨a, rfl, ?_⟩) (fun ad had i j pv h => ?_) (fun i j pv h => (key i j pv h).2.2) (fun i j pv h => (key i j pv h).2.1)
      · obtain ⟨y, _, rfl⟩ := List.mem_map.1 hr; exact hs y
      · have : 0 < l.length := by
          cases l with
          | nil => simp at hne
          | cons y l => simp
        have hx := key 0 0 ((c l[0]).getD 0 .undef) (by
          unfold getE
          rw [List.getElem?_map, List.getElem?_eq_getElem this]
          simp only [Option.map_some, Option.bind_some]
          rw [List.getD_eq_getElem?_getD, List.getElem?_eq_getElem (by rw [hs]; exact h0)]
          rfl)
        have := World.block_lt_of_cell? W _ hx.1
        rwa [add_block] at this
      · injection had with had; subst had; exact (key i j pv h).1
    · cases h

/-! ### the arguments -/
section
variable {H : Type} {enc : TypeId × Value → H} {W : World} {base : Nat} {sp : Nat → Bool} {v : Value} {d : DataW H} {ps : List MemPlace} {α : Type} {c : α → List PV} {R : α → Prop}
theorem arg_agg {fs : Array Field} (hu : P.underlying t = some (.struct fs)) (hr : Rd P t c R) (hv : Value.okWide P W .any base t v) (h : DataW.Trod enc P W 0 sp true t v d ps) : ∃ a, R a ∧ RF W (fun b => b < W.heap.size) (.agg (c a)) v := by
  unfold Value.okWide at hv
  rw [hu] at hv
  obtain ⟨cs, rfl, _⟩ := hv
  obtain ⟨fuel, hf⟩ := h
  obtain ⟨a, hR, h1, h2⟩ := hr hf
  simp only [Value.cells] at h1 h2
  refine ⟨a, hR, .agg _ cs (by simpa using h1.symm) fun i pv hg => ?_⟩
  have := (h2 i pv hg).1
  simpa [Array.getD_eq_getD_getElem?, List.getD_eq_getElem?_getD] using this
theorem arg_one (hn : ∀ cs, v ≠ .agg cs) (hr : Rd P t c R) (g : α → PV) (hg : ∀ a, c a = [g a]) (h : DataW.Trod enc P W 0 sp true t v d ps) : ∃ a, R a ∧ RF W (fun b => b < W.heap.size) (g a) v := by
  obtain ⟨fuel, hf⟩ := h
  obtain ⟨a, hR, h1, h2⟩ := hr hf
  have hc : v.cells.toList = [v] := by cases v <;> first | rfl | exact absurd rfl (hn _)
  rw [hc, hg] at h2
  refine ⟨a, hR, ?_⟩
  have := (h2 0 (g a) rfl).1
  simpa using this
theorem no_int {k : IntKind} (hu : P.underlying t = some (.int k)) (hv : Value.okWide P W .any base t v) : ∀ cs, v ≠ .agg cs := by
  rintro cs rfl
  simp [Value.okWide, hu, Cell.okWide, Cell.ok] at hv
theorem no_bool (hu : P.underlying t = some .bool) (hv : Value.okWide P W .any base t v) : ∀ cs, v ≠ .agg cs := by
  rintro cs rfl
  simp [Value.okWide, hu, Cell.okWide, Cell.ok] at hv
theorem no_str (hu : P.underlying t = some .string) (hv : Value.okWide P W .any base t v) : ∀ cs, v ≠ .agg cs := by
  rintro cs rfl
  simp [Value.okWide, hu, Cell.okWide, Cell.ok] at hv
theorem no_slice {e : TypeId} (hu : P.underlying t = some (.slice e)) (hv : Value.okWide P W .any base t v) : ∀ cs, v ≠ .agg cs := by
  rintro cs rfl
  simp [Value.okWide, hu, Cell.okWide, Cell.ok] at hv

theorem trodAll_below (hl : laidOutB P = true) {W' : World} (hb : Below W.heap.size W W') : ∀ {ts : List TypeId} {vs : List Value} {ds : List (DataW H)} {ps : List MemPlace}, (ts.all fun t => P.readableRec t && decide (t < P.types.size)) = true → (∀ x ∈ ps, x.block < W.heap.size) →
    DataW.TrodAll enc P W 0 (fun _ => true) true ts vs ds ps → DataW.TrodAll enc P W' 0 (fun b => decide (b < W.heap.size)) true ts vs ds ps
  | [], [], [], _, _, _, h => h
  | t :: ts, v :: vs, d :: ds, ps, hr, hlt, h => by
    obtain ⟨p, q, h1, h2, rfl⟩ := h
    simp only [List.all_cons, Bool.and_eq_true, decide_eq_true_eq] at hr
    exact ⟨p, q, Below.trod hl hr.1.1 hr.1.2 h1 hb fun x hx => hlt x (List.mem_append_left _ hx), trodAll_below hl hb hr.2 (fun x hx => hlt x (List.mem_append_right _ hx)) h2, rfl⟩
  | [], [], _ :: _, _, _, _, h => h.elim
  | [], _ :: _, _, _, _, _, h => h.elim
  | _ :: _, [], _, _, _, _, h => h.elim
  | _ :: _, _ :: _, [], _, _, _, h => h.elim
/-- What is to be shown behind a law's call. -/
theorem law_post {f : Func} {s : ChangeSpec} {apart fresh handsOn : Bool} {W' : World} {args : Array Value} {ds gs : List (DataW H)} {before : List MemPlace} {tb : TypeId} (hl : laidOutB P = true)
    (hW : DataW.Whole enc P f.params.toList s.vars apart W args.toList ds gs before) (hvars : s.vars = []) (hb : Below W.heap.size W W')
    (hp : (f.params.toList.all fun t => P.readableRec t && decide (t < P.types.size)) = true) (hrt : f.resultTypes = #[tb]) (hub : P.underlying tb = some .bool)
    (hs : (s.fn H (ds ++ gs)).results = [.lit (.bool true)]) (ha : (s.fn H (ds ++ gs)).args = ds) (hv : (s.fn H (ds ++ gs)).vars = []) :
    s.post enc P f apart fresh handsOn false W args (.bool true) W' := by
  have hlt := hW.lt
  obtain ⟨p, q, h1, h2, rfl, _, _⟩ := id hW
  rw [hvars] at h2
  obtain ⟨rfl, rfl⟩ := trodVars_none h2
  rw [List.append_nil] at *
  refine ⟨ds, [], p, [], p, [], by simpa using hW, ?_, ?_, ?_, hb.frame _, fun h => nomatch h⟩
  · simp only [List.append_nil] at *
    rw [hs, hrt]
    exact trodAll_mk1 (shut_bool hub true)
  · simp only [List.append_nil] at *
    rw [ha]
    exact trodAll_below hl hb hp (fun x hx => hlt x (by simpa using hx)) h1
  · simp only [List.append_nil] at *
    rw [hv, hvars]
    rfl
end
end
/-- A law's call, out of its contract. -/
theorem law_calls {P : Program} {f : FuncId} {pvs : List PV} {vals : List Value} {W : World} (h : PC P f pvs [] (.lit (.bool true)) []) (hlen : vals.length = pvs.length) (hrep : ∀ (i : Nat) pv, pvs[i]? = some pv → RF W (fun b => b < W.heap.size) pv (vals.getD i undef)) :
    Calls P f vals.toArray W fun e W' => e = .returned (.bool true) ∧ Below W.heap.size W W' := by
  refine (h.2 W ⟨fun b => b < W.heap.size, fun _ => 0, fun _ => undef, fun _ => 0, fun _ => False⟩ vals ⟨fun _ h => h, fun _ h => h.elim, fun _ _ h => h.elim⟩ (fun _ _ h => nomatch h) hlen fun i pv hg => .free _ _ (hrep i pv hg)).mono fun e W' he => ?_
  obtain ⟨v, c', rfl, hb, _, _, _, _, hv, _⟩ := he
  rw [hv.lit_eq]
  exact ⟨rfl, hb.os, hb.tape, hb.output, hb.size, fun k hk => hb.block k hk (by rintro (q | ⟨_, q, _⟩); omega; exact q)⟩
end Go.VI
