/- Regions that draw their order. -/
import Derived.Test.YtppmnjiibmomoaaVHLocal
set_option linter.unusedVariables false
set_option linter.unusedSimpArgs false
set_option linter.unusedSectionVars false
namespace Go.VI
open Go.RowKit

/-- the slots that an operation reads -/
def oreads (ops : Array Oper) (o : Oper) : List Nat :=
  (o.op.operands.toList.filterMap fun x => match x with | .tmp t => some t | _ => none) ++ (match o.guard with | some (j, _) => ((ops[j]?).bind (·.dst)).toList | none => [])
/-- It reads slots and no objects. -/
def shallow : Op → Bool
  | .move _ => true
  | .nilCheck _ => true
  | .assign _ => true
  | .pick _ _ _ => true
  | .field _ _ _ => true
  | .extract _ _ => true
  | .fieldAddr _ _ _ => true
  | .build _ _ => true
  | .makeFunc _ _ _ => true
  | _ => false
/-- the slots whose objects it reads -/
def odeep (ops : Array Oper) (o : Oper) : List Nat := if shallow o.op = true then [] else oreads ops o
theorem odeep_sub {ops : Array Oper} {o : Oper} : ∀ t ∈ odeep ops o, t ∈ oreads ops o := fun t h => by
  unfold odeep at h
  split at h
  · cases h
  · exact h
theorem odeep_of {ops : Array Oper} {o : Oper} (h : shallow o.op = false) : odeep ops o = oreads ops o := by unfold odeep; rw [h]; rfl
def direct (o : Oper) : List Nat := o.after.toList.filterMap fun e => if Region.binds .any e then some e.on else none
def masksGo : List Oper → List Nat → List Nat
  | [], acc => acc
  | o :: rest, acc => masksGo rest (acc ++ [(direct o).foldl (fun s k => s ||| 2 ^ k ||| acc.getD k 0) 0])
def forced (ms : List Nat) (i j : Nat) : Bool := (ms.getD j 0).testBit i

/-! ### which operation waits for which -/
inductive Reach (ops : Array Oper) : Nat → Nat → Prop
  | one {i j : Nat} {o : Oper} (h : ops.toList[j]? = some o) (hi : i ∈ direct o) : Reach ops i j
  | more {i k j : Nat} {o : Oper} (h : ops.toList[j]? = some o) (hk : k ∈ direct o) (r : Reach ops i k) : Reach ops i j

theorem fold_bit (acc : List Nat) (i : Nat) : ∀ (l : List Nat) (s : Nat), (l.foldl (fun s k => s ||| 2 ^ k ||| acc.getD k 0) s).testBit i = true → s.testBit i = true ∨ ∃ k ∈ l, i = k ∨ (acc.getD k 0).testBit i = true
  | [], s, h => .inl h
  | k :: l, s, h => by
    simp only [List.foldl_cons] at h
    rcases fold_bit acc i l _ h with h | ⟨k', hk, h⟩
    · simp only [Nat.testBit_or, Nat.testBit_two_pow, Bool.or_eq_true, decide_eq_true_eq] at h
      rcases h with (h | h) | h
      · exact .inl h
      · exact .inr ⟨k, by simp, .inl h.symm⟩
      · exact .inr ⟨k, by simp, .inr h⟩
    · exact .inr ⟨k', by simp [hk], h⟩
theorem masksGo_ok (ops : Array Oper) : ∀ (l : List Oper) (acc : List Nat), ops.toList.drop acc.length = l → (∀ j i, (acc.getD j 0).testBit i = true → Reach ops i j) → ∀ j i, ((masksGo l acc).getD j 0).testBit i = true → Reach ops i j
  | [], acc, _, h, j, i, hh => h j i hh
  | o :: rest, acc, hd, h, j, i, hh => by
    have ho : ops.toList[acc.length]? = some o := by
      have := congrArg (fun l => l[0]?) hd
      simpa [List.getElem?_drop] using this
    refine masksGo_ok ops rest (acc ++ [_]) ?_ ?_ j i hh
    · have := congrArg List.tail hd
      simpa [List.tail_drop] using this
    · intro j i hh
      rw [List.getD_eq_getElem?_getD] at hh
      by_cases hj : j < acc.length
      · rw [List.getElem?_append_left hj, ← List.getD_eq_getElem?_getD] at hh
        exact h j i hh
      · rw [List.getElem?_append_right (by omega)] at hh
        by_cases he : j = acc.length
        · subst he
          simp only [Nat.sub_self, List.getElem?_cons_zero, Option.getD_some] at hh
          rcases fold_bit acc i _ _ hh with hh | ⟨k, hk, hh⟩
          · simp at hh
          · rcases hh with rfl | hh
            · exact .one ho hk
            · exact .more ho hk (h k i hh)
        · have : [(direct o).foldl (fun s k => s ||| 2 ^ k ||| acc.getD k 0) 0][j - acc.length]? = none := by simp; omega
          rw [this] at hh
          simp at hh

/-- the operations that are listed: whatever one of them waits for is listed too -/
def Closed (ops : Array Oper) (L : Nat → Prop) : Prop := ∀ j o, ops.toList[j]? = some o → L j → ∀ k ∈ direct o, L k
theorem reach_listed {ops : Array Oper} {L : Nat → Prop} (hc : Closed ops L) {i j : Nat} (r : Reach ops i j) : ∀ o, ops.toList[j]? = some o → (∀ k ∈ direct o, L k) → L i := by
  induction r with
  | one h hi => intro o ho hd; rw [h] at ho; injection ho with ho; subst ho; exact hd _ hi
  | @more k j o h hk r ih =>
    intro o' ho hd
    rw [h] at ho; injection ho with ho; subst ho
    have hkL := hd k hk
    cases hko : ops.toList[k]? with
    | none =>
      exfalso
      cases r with
      | one h _ => rw [hko] at h; cases h
      | more h _ _ => rw [hko] at h; cases h
    | some o2 => exact ih o2 hko (hc k o2 hko hkL)

/-- what stands in 'ready' -/
theorem ready_direct {ops : Array Oper} {listed : Array Bool} {i : Nat} (h : i ∈ Region.ready .any ops listed) : listed.getD i true = false ∧ ∃ o, ops.toList[i]? = some o ∧ ∀ k ∈ direct o, listed.getD k false = true := by
  obtain ⟨h1, o, h2, h3⟩ := mem_ready.1 h
  refine ⟨h1, o, by rw [Array.getElem?_toList]; exact h2, fun k hk => ?_⟩
  unfold direct at hk
  rw [List.mem_filterMap] at hk
  obtain ⟨e, he, hk⟩ := hk
  split at hk
  · rename_i hb
    injection hk with hk
    subst hk
    exact h3 e (by simpa using he) hb
  · cases hk


/-! ### what an operation may do there -/
/-- Objects that are given up, objects that are laid anew, a value. -/
structure Deed where
  dels : List Nat
  sets : HP
  v : PV
def Deed.touch (A : Deed) : List Nat := A.dels ++ A.sets.map (·.1)
def HP.delL (L : List Nat) : HP → HP
  | [] => []
  | (g, o) :: h => if L.any (fun x => Nat.beq x g) = true then HP.delL L h else (g, o) :: HP.delL L h
def St.act (σ : St) (d : Option Nat) (A : Deed) : St := setO ⟨σ.s, A.sets ++ σ.h.delL A.dels⟩ d A.v
theorem any_beq {L : List Nat} {g : Nat} : (L.any fun x => Nat.beq x g) = true ↔ g ∈ L := by
  rw [List.any_eq_true]
  constructor
  · rintro ⟨x, hx, hb⟩; have := Nat.eq_of_beq_eq_true hb; subst this; exact hx
  · intro h; exact ⟨g, h, Nat.beq_refl g⟩
theorem delL_get (L : List Nat) (h : HP) (g : Nat) : (h.delL L).get g = if g ∈ L then none else h.get g := by
  induction h with
  | nil => simp [HP.delL, HP.get]
  | cons x h ih =>
    obtain ⟨g', o⟩ := x
    simp only [HP.delL]
    by_cases e : g = g'
    · subst e
      split
      · rename_i hp; rw [ih]; simp [any_beq.1 hp]
      · rename_i hp; simp [HP.get, mt any_beq.2 hp]
    · split
      · rw [ih]; simp [HP.get, beq_ff e]
      · simp only [HP.get, beq_ff e, Bool.false_eq_true, if_false]; rw [ih]
theorem get_none {h : HP} {g : Nat} (hg : g ∉ h.map (·.1)) : h.get g = none := by
  induction h with
  | nil => rfl
  | cons x h ih =>
    obtain ⟨g', o⟩ := x
    simp only [List.map_cons, List.mem_cons, not_or] at hg
    simp only [HP.get, beq_ff hg.1, Bool.false_eq_true, if_false]; exact ih hg.2
theorem get_some {h : HP} {g : Nat} (hg : g ∈ h.map (·.1)) : ∃ o, h.get g = some o := by
  induction h with
  | nil => cases hg
  | cons x h ih =>
    obtain ⟨g', o⟩ := x
    by_cases e : g = g'
    · subst e; exact ⟨o, by simp [HP.get]⟩
    · simp only [List.map_cons, List.mem_cons, e, false_or] at hg
      simp only [HP.get, beq_ff e, Bool.false_eq_true, if_false]; exact ih hg
theorem act_hget (σ : St) (d : Option Nat) (A : Deed) (g : Nat) : (σ.act d A).hget g = if g ∈ A.touch then A.sets.get g else σ.hget g := by
  have : (σ.act d A).hget g = HP.get (A.sets ++ σ.h.delL A.dels) g := by cases d <;> rfl
  rw [this, append_hget, delL_get]
  unfold Deed.touch
  by_cases h1 : g ∈ A.sets.map (·.1)
  · obtain ⟨o, ho⟩ := get_some h1
    rw [if_pos (List.mem_append.2 (.inr h1)), ho]
  · rw [get_none h1]
    by_cases h2 : g ∈ A.dels
    · rw [if_pos h2, if_pos (List.mem_append.2 (.inl h2))]
    · rw [if_neg h2, if_neg (fun h => (List.mem_append.1 h).elim h2 h1)]; rfl
theorem act_get (σ : St) (d : Option Nat) (A : Deed) (k : Nat) : (σ.act d A).get k = if d = some k then A.v else σ.get k := by
  cases d with
  | none => simp [St.act, setO]; rfl
  | some d =>
    simp only [St.act, setO, get_set, Option.some.injEq]
    rfl
def HO.avoid (F : List Nat) : HO → Bool
  | .box cs => cs.all (Avoid F)
  | _ => true
/-- The tags F are not in use. -/
def Clean (F : List Nat) (σ : St) : Prop := (∀ k, Avoid F (σ.get k) = true) ∧ ∀ g o, σ.hget g = some o → g ∉ F ∧ o.avoid F = true
/-- The operation does this deed. -/
def Sound (P : Program) (o : Oper) (F : List Nat) (σ : St) (A : Deed) : Prop :=
  ∀ (E : Ent) (S0 : Nat → Prop) (N : Nat) (a : Act) (w : World) (c : Ctx), Inv P E S0 N σ a w c → Clean F σ → (∀ k, o.dst = some k → k < N) →
    ∀ (next : Act → World → Prop) (Q : Exit → Act → World → Prop), (∀ a' w' c', Inv P E S0 N (σ.act o.dst A) a' w' c' → next a' w') → o.wp P a w next Q
/-- Alike for what the operation reads, but for the objects T, which it does not read. -/
structure Local (ops : Array Oper) (o : Oper) (rd T : List Nat) (σ τ : St) : Prop where
  slots : ∀ t ∈ oreads ops o, τ.get t = σ.get t
  heap : HAg T σ.h τ.h
  avoid : ∀ t ∈ odeep ops o, Avoid T (σ.get t) = true
  apart : ∀ g ∈ rd, g ∉ T
def DStep (P : Program) (ops : Array Oper) (o : Oper) (rd F : List Nat) (σ : St) (A : Deed) : Prop :=
  ∀ T τ, Local ops o rd T σ τ → (pguard ops τ o = some false ∧ A = ⟨[], [], .lit undef⟩) ∨ (pguard ops τ o = some true ∧ Sound P o F τ A)
theorem DStep.loc {P : Program} {ops : Array Oper} {o : Oper} {rd F T : List Nat} {σ τ : St} {A : Deed} (h : DStep P ops o rd F σ A) (l : Local ops o rd T σ τ) : DStep P ops o rd F τ A := fun T' τ' l' =>
  h (T ++ T') τ' ⟨fun t ht => (l'.slots t ht).trans (l.slots t ht), fun g hg => (l.heap g fun q => hg (List.mem_append.2 (.inl q))).trans (l'.heap g fun q => hg (List.mem_append.2 (.inr q))), fun t ht => by
    have h1 := l.avoid t ht
    have h2 := l'.avoid t ht
    rw [l.slots t (odeep_sub t ht)] at h2
    unfold Avoid at *
    rw [List.all_append, h1, h2]; rfl, fun g hg q => (List.mem_append.1 q).elim (l.apart g hg) (l'.apart g hg)⟩

/-- What is told of the operations: the tags that each may touch, that are new to it, that it does not read, that do not stand in what it yields. -/
structure DD where
  T : Nat → List Nat
  F : Nat → List Nat
  rd : Nat → List Nat
  av : Nat → List Nat
  fv : Nat → List Nat
inductive DRun (P : Program) (ops : Array Oper) (D : DD) : List Nat → St → St → Prop
  | nil (σ : St) : DRun P ops D [] σ σ
  | cons {i : Nat} {o : Oper} {l : List Nat} {σ σ' : St} {A : Deed} (ho : ops.toList[i]? = some o) (hs : DStep P ops o (D.rd i) (D.F i) σ A) (hav : ∀ t ∈ odeep ops o, Avoid (D.av i) (σ.get t) = true) (ht : ∀ g ∈ A.touch, g ∈ D.T i)
      (hfv : Avoid (D.fv i) A.v = true ∧ ∀ x ∈ A.sets, x.1 ∉ D.fv i ∧ x.2.avoid (D.fv i) = true) (r : DRun P ops D l (σ.act o.dst A) σ') : DRun P ops D (i :: l) σ σ'
def Alike (σ τ : St) : Prop := (∀ k, σ.get k = τ.get k) ∧ ∀ g, σ.hget g = τ.hget g
theorem Alike.symm {σ τ : St} (h : Alike σ τ) : Alike τ σ := ⟨fun k => (h.1 k).symm, fun g => (h.2 g).symm⟩
theorem Alike.trans {σ τ υ : St} (h : Alike σ τ) (h' : Alike τ υ) : Alike σ υ := ⟨fun k => (h.1 k).trans (h'.1 k), fun g => (h.2 g).trans (h'.2 g)⟩
theorem Alike.rfl' (σ : St) : Alike σ σ := ⟨fun _ => rfl, fun _ => rfl⟩
theorem Alike.act {σ τ : St} (h : Alike σ τ) (d : Option Nat) (A : Deed) : Alike (σ.act d A) (τ.act d A) :=
  ⟨fun k => by rw [act_get, act_get, h.1 k], fun g => by rw [act_hget, act_hget, h.2 g]⟩
theorem Alike.loc {ops : Array Oper} {o : Oper} {rd : List Nat} {σ τ : St} (h : Alike σ τ) : Local ops o rd [] σ τ := ⟨fun t _ => (h.1 t).symm, fun g _ => h.2 g, fun _ _ => rfl, fun _ _ q => nomatch q⟩
/-- Two operations neither of which touches what the other one writes or reads. -/
def indep (ops : Array Oper) (o o' : Oper) : Bool :=
  (match o.dst with | some d => !(oreads ops o').contains d && !(decide (o'.dst = some d)) | none => true) && (match o'.dst with | some d => !(oreads ops o).contains d | none => true)
theorem indep_spec {ops : Array Oper} {o o' : Oper} (h : indep ops o o' = true) : (∀ d, o.dst = some d → d ∉ oreads ops o' ∧ o'.dst ≠ some d) ∧ ∀ d, o'.dst = some d → d ∉ oreads ops o := by
  unfold indep at h
  simp only [Bool.and_eq_true] at h
  obtain ⟨h1, h2⟩ := h
  constructor
  · intro d hd
    rw [hd] at h1
    simpa using h1
  · intro d hd
    rw [hd] at h2
    simpa using h2
/-- They may change places. -/
def Apart (ops : Array Oper) (D : DD) (i j : Nat) (oi oj : Oper) : Prop :=
  indep ops oi oj = true ∧ (∀ g ∈ D.T i, g ∈ D.av j) ∧ (∀ g ∈ D.T j, g ∈ D.av i) ∧ (∀ g ∈ D.T i, g ∉ D.T j) ∧ (∀ g ∈ D.rd i, g ∉ D.T j) ∧ ∀ g ∈ D.rd j, g ∉ D.T i

section
variable {P : Program} {ops : Array Oper} {D : DD}
theorem avoid_sub {L M : List Nat} {v : PV} (h : Avoid M v = true) (hs : ∀ g ∈ L, g ∈ M) : Avoid L v = true := List.all_eq_true.2 fun g hg => List.all_eq_true.1 h g (hs g hg)
theorem act_loc {rd : List Nat} {σ : St} {o o' : Oper} {A : Deed} (hrd : ∀ g ∈ rd, g ∉ A.touch) (hd : ∀ d, o.dst = some d → d ∉ oreads ops o') (ha : ∀ t ∈ odeep ops o', Avoid A.touch (σ.get t) = true) : Local ops o' rd A.touch σ (σ.act o.dst A) := by
  refine ⟨fun t ht => ?_, fun g hg => ?_, ha, hrd⟩
  · rw [act_get, if_neg]; intro e; exact hd t e ht
  · have : (σ.act o.dst A).hget g = σ.hget g := by rw [act_hget, if_neg hg]
    exact this.symm
theorem DRun.alike {l : List Nat} {σ σ' : St} (r : DRun P ops D l σ σ') : ∀ {τ : St}, Alike σ τ → ∃ τ', DRun P ops D l τ τ' ∧ Alike σ' τ' := by
  induction r with
  | nil σ => intro τ h; exact ⟨τ, .nil τ, h⟩
  | cons ho hs hav ht hfv r ih =>
    intro τ h
    obtain ⟨τ', q1, q2⟩ := ih (h.act _ _)
    exact ⟨τ', .cons ho (hs.loc h.loc) (fun t q => by rw [← h.1 t]; exact hav t q) ht hfv q1, q2⟩
/-- An operation that is apart from those ahead of it may come first. -/
theorem DRun.front {i : Nat} {oi : Oper} (hi : ops.toList[i]? = some oi) : ∀ {l1 l2 : List Nat} {σ σ' : St}, DRun P ops D (l1 ++ i :: l2) σ σ' → (∀ j ∈ l1, ∀ oj, ops.toList[j]? = some oj → Apart ops D j i oj oi) → ∃ σ'', DRun P ops D (i :: (l1 ++ l2)) σ σ'' ∧ Alike σ' σ''
  | [], l2, σ, σ', r, _ => ⟨σ', r, Alike.rfl' _⟩
  | j :: l1, l2, σ, σ', r, hap => by
    cases r with
    | cons ho hs hav ht hfv r =>
      rename_i oj Aj
      obtain ⟨σ2, r2, e2⟩ := DRun.front hi r fun k hk => hap k (by simp [hk])
      cases r2 with
      | cons ho2 hs2 hav2 ht2 hfv2 r2 =>
        rename_i o2 Ai
        rw [hi] at ho2
        injection ho2 with ho2
        subst ho2
        obtain ⟨hin, hT1, hT2, hT3, hr1, hr2⟩ := hap j (by simp) oj ho
        obtain ⟨hin1, hin2⟩ := indep_spec hin
        -- i at the start
        have rd : ∀ t ∈ oreads ops oi, (σ.act oj.dst Aj).get t = σ.get t := fun t q => by rw [act_get, if_neg]; intro e; exact (hin1 t e).1 q
        have l1' : Local ops oi (D.rd i) Aj.touch (σ.act oj.dst Aj) σ := by
          refine ⟨fun t q => (rd t q).symm, fun g hg => ?_, fun t q => avoid_sub (hav2 t q) fun g hg => hT1 g (ht g hg), fun g hg q => hr2 g hg (ht g q)⟩
          have : (σ.act oj.dst Aj).hget g = σ.hget g := by rw [act_hget, if_neg hg]
          exact this
        have s1 := hs2.loc l1'
        -- j behind it
        have l2' : Local ops oj (D.rd j) Ai.touch σ (σ.act oi.dst Ai) := act_loc (fun g hg q => hr1 g hg (ht2 g q)) hin2 fun t q => avoid_sub (hav t q) fun g hg => hT2 g (ht2 g hg)
        have s2 := hs.loc l2'
        have al : Alike ((σ.act oj.dst Aj).act oi.dst Ai) ((σ.act oi.dst Ai).act oj.dst Aj) := by
          refine ⟨fun k => ?_, fun g => ?_⟩
          · simp only [act_get]
            by_cases e1 : oi.dst = some k <;> by_cases e2 : oj.dst = some k <;> simp [e1, e2]
            exact absurd e1 (hin1 k e2).2
          · simp only [act_hget]
            by_cases e1 : g ∈ Ai.touch <;> by_cases e2 : g ∈ Aj.touch <;> simp [e1, e2]
            exact absurd (ht2 g e1) (hT3 g (ht g e2))
        obtain ⟨σ3, r3, e3⟩ := r2.alike al
        exact ⟨σ3, .cons hi s1 (fun t q => by rw [← rd t (odeep_sub t q)]; exact hav2 t q) ht2 hfv2 (.cons ho s2 (fun t q => by rw [l2'.slots t (odeep_sub t q)]; exact hav t q) ht hfv r3), e2.trans e3⟩

section
variable {E : Ent} {S0 : Nat → Prop} {N : Nat} {σ : St} {a : Act} {w : World} {c : Ctx}
theorem Inv.alike {τ : St} (h : Inv P E S0 N σ a w c) (e : Alike σ τ) : Inv P E S0 N τ a w c := h.weak (fun i => .inr (e.1 i).symm) fun g o hg => by rw [e.2 g]; exact hg

/-- One operation, carried out. -/
theorem dstep_ok {i : Nat} {o : Oper} (hi : ops.toList[i]? = some o) {A : Deed} (hs : DStep P ops o (D.rd i) (D.F i) σ A) (h : Inv P E S0 N σ a w c) (hcl : Clean (D.F i) σ) (hd : ∀ k, o.dst = some k → k < N)
    (next : Act → World → Prop) (Q : Exit → Act → World → Prop) (hn : ∀ a' w' c', Inv P E S0 N (σ.act o.dst A) a' w' c' → next a' w') : wpOp P ops Q i next a w := by
  have hiA : ops[i]? = some o := by rw [← Array.getElem?_toList]; exact hi
  unfold wpOp
  simp only [hiA]
  rcases hs [] σ (Alike.rfl' σ).loc with ⟨hg, rfl⟩ | ⟨hg, hs⟩
  · rw [if_neg (by rw [pguard_ok h hg]; simp)]
    refine hn _ _ _ ((h.put o.dst hd (.free _ _ (.lit _))).alike ⟨fun k => ?_, fun g => ?_⟩)
    · rw [act_get]
      cases o.dst with
      | none => rfl
      | some d => simp only [setO, get_set, Option.some.injEq]
    · rw [act_hget]
      cases o.dst <;> simp [Deed.touch, setO, hget_set]
  · rw [if_pos (pguard_ok h hg)]
    exact .inl (hs E S0 N a w c h hcl hd next Q hn)
theorem binds_direct {o : Oper} {k : Nat} : k ∈ direct o ↔ ∃ e ∈ o.after, Region.binds .any e = true ∧ e.on = k := by
  unfold direct
  rw [List.mem_filterMap]
  constructor
  · rintro ⟨e, he, hk⟩
    split at hk
    · rename_i hb; injection hk with hk; exact ⟨e, by simpa using he, hb, hk⟩
    · cases hk
  · rintro ⟨e, he, hb, rfl⟩
    exact ⟨e, by simpa using he, by rw [if_pos hb]⟩
theorem direct_ready {ops : Array Oper} {listed : Array Bool} {i : Nat} {o : Oper} (h1 : listed.getD i true = false) (h2 : ops.toList[i]? = some o) (h3 : ∀ k ∈ direct o, listed.getD k false = true) : i ∈ Region.ready .any ops listed :=
  mem_ready.2 ⟨h1, o, by rw [← Array.getElem?_toList]; exact h2, fun e he hb => h3 _ (binds_direct.2 ⟨e, he, hb, rfl⟩)⟩

theorem getD_both {listed : Array Bool} {i n : Nat} (hs : listed.size = n) (hi : i < n) : listed.getD i true = listed.getD i false := by
  simp [Array.getD_eq_getD_getElem?, hs, hi]
theorem set_listed {listed : Array Bool} {i k n : Nat} (hs : listed.size = n) (hi : i < n) : (listed.setIfInBounds i true).getD k false = if k = i then true else listed.getD k false := by
  simp only [Array.getD_eq_getD_getElem?, Array.getElem?_setIfInBounds]
  by_cases e : k = i
  · subst e; simp [hs, hi]
  · simp [e, Ne.symm e]


/-- What is asked of the region's text. -/
structure DOk (ops : Array Oper) (D : DD) (m : Nat) : Prop where
  le : m ≤ ops.toList.length
  back : ∀ j o, ops.toList[j]? = some o → ∀ k ∈ direct o, k < j
  pair : ∀ i j oi oj, ops.toList[i]? = some oi → ops.toList[j]? = some oj → i < j → j < m → Reach ops i j ∨ Apart ops D i j oi oj
  fresh : ∀ i j, i < m → j < m → j ≠ i → Reach ops i j ∨ ∀ g ∈ D.F i, g ∈ D.fv j
  tail : ∀ i j, i < j → m ≤ j → j < ops.toList.length → Reach ops i j
def lst (L : List (Nat × List Nat)) (i : Nat) : List Nat := match L with
  | [] => []
  | (j, x) :: L => if Nat.beq i j = true then x else lst L i
def inL (L M : List Nat) : Bool := L.all fun g => M.any fun x => Nat.beq x g
theorem inL_spec {L M : List Nat} (h : inL L M = true) : ∀ g ∈ L, g ∈ M := fun g hg => any_beq.1 (List.all_eq_true.1 h g hg)
def noL (L M : List Nat) : Bool := L.all fun g => !(M.any fun x => Nat.beq x g)
theorem noL_spec {L M : List Nat} (h : noL L M = true) : ∀ g ∈ L, g ∉ M := fun g hg q => by
  have := List.all_eq_true.1 h g hg
  rw [any_beq.2 q] at this; cases this
/-- All that is asked of the region's text: m: how many operations may change places. -/
def drawOk (ops : Array Oper) (T F rd av fv : List (Nat × List Nat)) (m : Nat) : Bool :=
  let ms := masksGo ops.toList []
  let at_ := fun k => ops.getD k default
  decide (m ≤ ops.size) &&
  ((List.range ops.size).all fun j => (direct (at_ j)).all fun k => decide (k < j)) &&
  ((List.range m).all fun j => (List.range j).all fun i => forced ms i j || (indep ops (at_ i) (at_ j) && inL (lst T i) (lst av j) && inL (lst T j) (lst av i) && noL (lst T i) (lst T j) && noL (lst rd i) (lst T j) && noL (lst rd j) (lst T i))) &&
  ((List.range m).all fun i => (List.range m).all fun j => decide (j = i) || forced ms i j || inL (lst F i) (lst fv j)) &&
  ((List.range ops.size).all fun j => decide (j < m) || (List.range j).all fun i => forced ms i j)
theorem drawOk_spec {T F rd av fv : List (Nat × List Nat)} {m : Nat} (h : drawOk ops T F rd av fv m = true) : DOk ops ⟨lst T, lst F, lst rd, lst av, lst fv⟩ m := by
  unfold drawOk at h
  simp only [Bool.and_eq_true, decide_eq_true_eq, List.all_eq_true, List.mem_range, Bool.or_eq_true, Bool.not_eq_true'] at h
  obtain ⟨⟨⟨⟨h1, h2⟩, h4⟩, h5⟩, h6⟩ := h
  have hms : ∀ j i, ((masksGo ops.toList []).getD j 0).testBit i = true → Reach ops i j := masksGo_ok ops ops.toList [] (by simp) (by simp)
  have hat : ∀ j o, ops.toList[j]? = some o → ops.getD j default = o ∧ j < ops.size := fun j o ho => by
    rw [Array.getElem?_toList] at ho
    have := (Array.getElem?_eq_some_iff.1 ho).1
    exact ⟨by simp [Array.getD_eq_getD_getElem?, ho], this⟩
  refine ⟨by simpa using h1, fun j o ho k hk => ?_, fun i j oi oj hi hj hij hjm => ?_, fun i j him hjm hne => ?_, fun i j hij hmj hj => ?_⟩
  · obtain ⟨e, hlt⟩ := hat j o ho
    exact h2 j hlt k (by rw [e]; exact hk)
  · obtain ⟨e1, _⟩ := hat i oi hi
    obtain ⟨e2, _⟩ := hat j oj hj
    have := h4 j hjm i hij
    rw [e1, e2] at this
    exact this.imp (hms j i) fun ⟨⟨⟨⟨⟨q1, q2⟩, q3⟩, q4⟩, q5⟩, q6⟩ => ⟨q1, inL_spec q2, inL_spec q3, noL_spec q4, noL_spec q5, noL_spec q6⟩
  · rcases h5 i him j hjm with (q | q) | q
    · exact absurd q hne
    · exact .inl (hms j i q)
    · exact .inr (inL_spec q)
  · rcases h6 j (by simpa using hj) with q | q
    · omega
    · exact hms j i (q i hij)
end
end
end Go.VI
