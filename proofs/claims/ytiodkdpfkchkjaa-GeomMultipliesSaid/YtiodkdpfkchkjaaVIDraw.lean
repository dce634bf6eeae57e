/- Regions that draw their order. -/
import Derived.Test.YtiodkdpfkchkjaaVICode
set_option linter.unusedVariables false
set_option linter.unusedSimpArgs false
set_option linter.unusedSectionVars false
namespace Go.VI
open Go.RowKit

def Alike (σ τ : St) : Prop := ∀ k, σ.get k = τ.get k
theorem pev_alike {σ τ : St} {x : Operand} (h : ∀ t, x = .tmp t → σ.get t = τ.get t) : pev σ x = pev τ x := by
  cases x <;> simp [pev]
  exact h _ rfl

theorem mapM_pev {σ τ : St} {l : List Operand} (h : ∀ x ∈ l, pev σ x = pev τ x) : l.map (pev σ) = l.map (pev τ) := List.map_congr_left h

theorem peop_congr (P : Program) (eqn : TypeId → Nat) {σ τ : St} (d : Nat) (ty : TypeId) (op : Op) (h : ∀ x ∈ op.operands.toList, pev σ x = pev τ x) : peop P eqn σ d ty op = peop P eqn τ d ty op := by
  cases op with
  | move x => simp only [peop]; rw [h x (by simp [Op.operands])]
  | assign x => simp only [peop]; rw [h x (by simp [Op.operands])]
  | pick c a b => simp only [peop]; rw [h c (by simp [Op.operands]), h a (by simp [Op.operands]), h b (by simp [Op.operands])]
  | box e x => simp only [peop]; rw [h x (by simp [Op.operands])]
  | build t parts =>
    have e : (parts.toList.map fun p => (p.1, pev σ p.2)) = parts.toList.map fun p => (p.1, pev τ p.2) :=
      List.map_congr_left fun p hp => by rw [h p.2 (by simp only [Op.operands]; simp; exact ⟨p.1, by simpa using hp⟩)]
    simp only [peop, e]
  | buildSlice t n parts =>
    have e0 : ∀ p ∈ parts.toList, pev σ p.2 = pev τ p.2 := fun p hp => h p.2 (by simp only [Op.operands]; simp; exact ⟨p.1, by simpa using hp⟩)
    have e1 : (parts.toList.map fun p => (pev σ p.2).cells) = parts.toList.map fun p => (pev τ p.2).cells := List.map_congr_left fun p hp => by rw [e0 p hp]
    have e2 : ∀ e, (parts.toList.all fun p => (pev σ p.2).cells.length == tSize P e && (pev σ p.2).cells.all PV.still) = (parts.toList.all fun p => (pev τ p.2).cells.length == tSize P e && (pev τ p.2).cells.all PV.still) := by
      intro e
      rw [Bool.eq_iff_iff, List.all_eq_true, List.all_eq_true]
      exact ⟨fun q p hp => by rw [← e0 p hp]; exact q p hp, fun q p hp => by rw [e0 p hp]; exact q p hp⟩
    simp only [peop, e1, e2]
  | load t x => simp only [peop]; rw [h x (by simp [Op.operands])]
  | store t a x => simp only [peop]; rw [h a (by simp [Op.operands]), h x (by simp [Op.operands])]
  | binOp op t x y t' => simp only [peop]; rw [h x (by simp [Op.operands]), h y (by simp [Op.operands])]
  | unOp op t x => simp only [peop]; rw [h x (by simp [Op.operands])]
  | convert s t x => simp only [peop]; rw [h x (by simp [Op.operands])]
  | makeFunc f first caps =>
    have e : caps.toList.map (pev σ) = caps.toList.map (pev τ) := mapM_pev fun x hx => h x (by simp only [Op.operands]; simp; exact .inr (by simpa using hx))
    cases f <;> simp only [peop, e]
  | makeSlice t l m => simp only [peop]; rw [h l (by simp [Op.operands]), h m (by simp [Op.operands])]
  | slice t x lo hi mx =>
    cases mx with
    | some m => simp [peop]
    | none =>
      have e1 : poptL σ lo = poptL τ lo := by
        cases lo with
        | none => rfl
        | some y => simp only [poptL]; rw [h y (by simp [Op.operands])]
      have e2 : poptH σ hi = poptH τ hi := by
        cases hi with
        | none => rfl
        | some y => simp only [poptH]; rw [h y (by simp [Op.operands])]
      simp only [peop, e1, e2]
      rw [h x (by simp [Op.operands])]
  | fieldAddr s x f => simp only [peop]; rw [h x (by simp [Op.operands])]
  | field s x f => simp only [peop]; rw [h x (by simp [Op.operands])]
  | indexAddr t x i => simp only [peop]; rw [h x (by simp [Op.operands]), h i (by simp [Op.operands])]
  | index t x i => simp only [peop]; rw [h x (by simp [Op.operands]), h i (by simp [Op.operands])]
  | extract x i => simp only [peop]; rw [h x (by simp [Op.operands])]
  | call c =>
    obtain ⟨cal, args, at_⟩ := c
    have e : ∀ x ∈ args.toList, pev σ x = pev τ x := fun x hx => h x (by simp only [Op.operands, Call.operands]; simp; exact .inr (by simpa using hx))
    simp only [peop, pcallB]
    cases cal with
    | builtin b =>
      have em : args.toList.map (pev σ) = args.toList.map (pev τ) := mapM_pev e
      cases b <;> simp only [em]
      all_goals
        split
        · rename_i hx _
          have hm := e
          rw [hx] at hm
          simp only [List.mem_cons, List.not_mem_nil, or_false, forall_eq_or_imp, forall_eq] at hm
          simp only [hm]
        · rfl
    | _ => rfl
  | _ => simp [peop]

theorem pcallee_congr {σ τ : St} {op : Op} (h : ∀ x ∈ op.operands.toList, pev σ x = pev τ x) : pcallee σ op = pcallee τ op := by
  cases op with
  | call c =>
    obtain ⟨cal, args, at_⟩ := c
    simp only [pcallee]
    cases cal with
    | value f =>
      have e1 : pev σ f = pev τ f := h f (by simp [Op.operands, Call.operands])
      have e : args.toList.map (pev σ) = args.toList.map (pev τ) := mapM_pev fun x hx => h x (by simp only [Op.operands, Call.operands]; simp; exact .inr (by simpa using hx))
      simp only [e1, e]
    | _ => rfl
  | _ => rfl

/-! ### where the tags of a result come from -/
theorem hasL_get {g : Nat} {l : List PV} (h : PV.hasL g l = true) : ∃ (i : Nat) (p : PV), l[i]? = some p ∧ p.has g = true := by
  induction l with
  | nil => simp [PV.hasL] at h
  | cons c cs ih =>
    simp only [PV.hasL, Bool.or_eq_true] at h
    rcases h with h | h
    · exact ⟨0, c, rfl, h⟩
    · obtain ⟨i, p, h1, h2⟩ := ih h
      exact ⟨i + 1, p, h1, h2⟩
theorem hasL_mem {g : Nat} {l : List PV} (h : PV.hasL g l = true) : ∃ p ∈ l, p.has g = true := by
  obtain ⟨i, p, h1, h2⟩ := hasL_get h
  exact ⟨p, List.mem_of_getElem? h1, h2⟩
theorem hasL_of_mem {g : Nat} {l : List PV} {p : PV} (hp : p ∈ l) (h : p.has g = true) : PV.hasL g l = true := by
  obtain ⟨i, hi⟩ := List.mem_iff_getElem?.1 hp
  exact hasL_of hi h
theorem cells_has {g : Nat} {p q : PV} (hq : q ∈ p.cells) (h : q.has g = true) : p.has g = true := by
  by_cases ha : ∃ cs, p = .agg cs
  · obtain ⟨cs, rfl⟩ := ha
    rw [PV.has]; exact hasL_of_mem hq h
  · have : p.cells = [p] := by cases p <;> first | rfl | exact absurd ⟨_, rfl⟩ ha
    rw [this] at hq
    simp at hq
    subst hq; exact h
theorem range?_mem {cs l : List PV} {off n : Nat} (h : range? cs off n = some l) {p : PV} (hp : p ∈ l) : p ∈ cs := by
  unfold range? at h
  split at h
  · injection h with h; subst h; exact List.mem_of_mem_drop (List.mem_of_mem_take hp)
  · cases h

mutual
/-- What is seen bears no tag. -/
theorem view_free : ∀ p : PV, p.view.free = true
  | .undef => rfl
  | .lit _ => rfl
  | .nl => rfl
  | .sl _ => rfl
  | .own _ _ _ => rfl
  | .agg cs => by rw [PV.view, PV.free]; exact viewL_free cs
  | .tup cs => by rw [PV.view, PV.free]; exact viewL_free cs
  | .ptr _ _ _ => rfl
  | .vptr _ _ => rfl
  | .optr _ _ _ _ _ => rfl
  | .fn _ cs => by rw [PV.view, PV.free]; exact viewL_free cs
theorem viewL_free : ∀ l : List PV, PV.freeL (PV.viewL l) = true
  | [] => rfl
  | c :: cs => by rw [PV.viewL, PV.freeL, view_free c, viewL_free cs]; rfl
end

/-! ### which operation waits for which -/
inductive Reach (ops : Array Oper) : Nat → Nat → Prop
  | one {i j : Nat} {o : Oper} (h : ops.toList[j]? = some o) (hi : i ∈ direct o) : Reach ops i j
  | more {i k j : Nat} {o : Oper} (h : ops.toList[j]? = some o) (hk : k ∈ direct o) (r : Reach ops i k) : Reach ops i j

theorem fold_bit (acc : List Nat) (i : Nat) : ∀ (l : List Nat) (s : Nat), (l.foldl (fun s k => s ||| 2 ^ k ||| acc.getD k 0) s).testBit i = true → s.testBit i = true ∨ ∃ k ∈ l, i = k ∨ (acc.getD k 0).testBit i = true
  | [], s, h => .inl h
  | k :: l, s, h => by
    simp only [List.foldl_cons] at h
    rcases fold_bit acc i l _ h with h | ⟨k', hk, h⟩
    · simp only [Nat.testBit_or, Nat.testBit_two_pow, Bool.or_eq_true, decide_eq_true_eq] at h
      rcases h with (h | h) | h
      · exact .inl h
      · exact .inr ⟨k, by simp, .inl h.symm⟩
      · exact .inr ⟨k, by simp, .inr h⟩
    · exact .inr ⟨k', by simp [hk], h⟩
theorem masksGo_ok (ops : Array Oper) : ∀ (l : List Oper) (acc : List Nat), ops.toList.drop acc.length = l → (∀ j i, (acc.getD j 0).testBit i = true → Reach ops i j) → ∀ j i, ((masksGo l acc).getD j 0).testBit i = true → Reach ops i j
  | [], acc, _, h, j, i, hh => h j i hh
  | o :: rest, acc, hd, h, j, i, hh => by
    have ho : ops.toList[acc.length]? = some o := by
      have := congrArg (fun l => l[0]?) hd
      simpa [List.getElem?_drop] using this
    refine masksGo_ok ops rest (acc ++ [_]) ?_ ?_ j i hh
    · have := congrArg List.tail hd
      simpa [List.tail_drop] using this
    · intro j i hh
      rw [List.getD_eq_getElem?_getD] at hh
      by_cases hj : j < acc.length
      · rw [List.getElem?_append_left hj, ← List.getD_eq_getElem?_getD] at hh
        exact h j i hh
      · rw [List.getElem?_append_right (by omega)] at hh
        by_cases he : j = acc.length
        · subst he
          simp only [Nat.sub_self, List.getElem?_cons_zero, Option.getD_some] at hh
          rcases fold_bit acc i _ _ hh with hh | ⟨k, hk, hh⟩
          · simp at hh
          · rcases hh with rfl | hh
            · exact .one ho hk
            · exact .more ho hk (h k i hh)
        · have : [(direct o).foldl (fun s k => s ||| 2 ^ k ||| acc.getD k 0) 0][j - acc.length]? = none := by simp; omega
          rw [this] at hh
          simp at hh

/-- the operations that are listed: whatever one of them waits for is listed too -/
def Closed (ops : Array Oper) (L : Nat → Prop) : Prop := ∀ j o, ops.toList[j]? = some o → L j → ∀ k ∈ direct o, L k
theorem reach_listed {ops : Array Oper} {L : Nat → Prop} (hc : Closed ops L) {i j : Nat} (r : Reach ops i j) : ∀ o, ops.toList[j]? = some o → (∀ k ∈ direct o, L k) → L i := by
  induction r with
  | one h hi => intro o ho hd; rw [h] at ho; injection ho with ho; subst ho; exact hd _ hi
  | @more k j o h hk r ih =>
    intro o' ho hd
    rw [h] at ho; injection ho with ho; subst ho
    have hkL := hd k hk
    cases hko : ops.toList[k]? with
    | none =>
      exfalso
      cases r with
      | one h _ => rw [hko] at h; cases h
      | more h _ _ => rw [hko] at h; cases h
    | some o2 => exact ih o2 hko (hc k o2 hko hkL)

/-- what stands in 'ready' -/
theorem ready_direct {ops : Array Oper} {listed : Array Bool} {i : Nat} (h : i ∈ Region.ready .any ops listed) : listed.getD i true = false ∧ ∃ o, ops.toList[i]? = some o ∧ ∀ k ∈ direct o, listed.getD k false = true := by
  obtain ⟨h1, o, h2, h3⟩ := mem_ready.1 h
  refine ⟨h1, o, by rw [Array.getElem?_toList]; exact h2, fun k hk => ?_⟩
  unfold direct at hk
  rw [List.mem_filterMap] at hk
  obtain ⟨e, he, hk⟩ := hk
  split at hk
  · rename_i hb
    injection hk with hk
    subst hk
    exact h3 e (by simpa using he) hb
  · cases hk

/-- What an operation of such a region may yield. -/
def DStep (P : Program) (eqn : TypeId → Nat) (ops : Array Oper) (o : Oper) (σ : St) (v : PV) : Prop :=
  (pguard ops σ o = some false ∧ v = .lit undef) ∨
  (pguard ops σ o = some true ∧ ((∃ f args r, pcallee σ o.op = some (f, args) ∧ PCalls P f (PV.viewL args) r ∧ (PV.freeL args = true ∨ r.fresh = true) ∧ v = r.view) ∨
    (pcallee σ o.op = none ∧ ∃ r, peop P eqn σ (o.dst.getD 0) o.type o.op = some r ∧ resD o.op r = some v)))

inductive DRun (P : Program) (eqn : TypeId → Nat) (ops : Array Oper) (ab : Nat → List Nat) : List Nat → St → St → Prop
  | nil (σ : St) : DRun P eqn ops ab [] σ σ
  | cons {i : Nat} {o : Oper} {l : List Nat} {σ σ' : St} {v : PV} (ho : ops.toList[i]? = some o) (hs : DStep P eqn ops o σ v) (ha : ∀ d ∈ ab i, v.has d = false) (r : DRun P eqn ops ab l (Res.put σ o.dst (.val v)) σ') : DRun P eqn ops ab (i :: l) σ σ'

section
variable {P : Program} {eqn : TypeId → Nat} {ops : Array Oper} {ab : Nat → List Nat}

theorem evD_run (abl : List (List Nat)) : ∀ (l : List Oper) (m n : Nat) {σ : St} {K : St → Prop}, (ops.toList.take n).drop m = l → m ≤ n → evD P eqn ops (abl.drop m) l σ K → ∃ σ', DRun P eqn ops (fun i => abl.getD i []) (List.range' m l.length) σ σ' ∧ K σ'
  | [], m, n, σ, K, _, _, h => ⟨σ, .nil σ, h⟩
  | o :: rest, m, n, σ, K, hd, hmn, h => by
    have hm : ops.toList[m]? = some o := by
      have := congrArg (fun l => l[0]?) hd
      simp only [List.getElem?_drop, Nat.add_zero, List.getElem?_take, List.getElem?_cons_zero] at this
      split at this
      · exact this
      · cases this
    have hrest : (ops.toList.take n).drop (m + 1) = rest := by
      have := congrArg List.tail hd
      simpa [List.tail_drop] using this
    have hlt : m < n := by
      rcases Nat.lt_or_ge m n with h | h
      · exact h
      · rw [List.drop_eq_nil_of_le (by simp; omega)] at hd; cases hd
    have htail : (abl.drop m).tail = abl.drop (m + 1) := by simp [List.tail_drop]
    have hhead : (abl.drop m).headD [] = abl.getD m [] := by
      rw [List.headD_eq_head?_getD, List.head?_drop, List.getD_eq_getElem?_getD]
    simp only [List.length_cons, List.range'_succ]
    simp only [evD, optE] at h
    split at h
    case h_2 => exact h.elim
    rename_i b hg
    rw [htail, hhead] at h
    cases b with
    | false =>
      obtain ⟨σ', h1, h2⟩ := evD_run abl rest (m + 1) n hrest hlt h
      exact ⟨σ', .cons hm (.inl ⟨hg, rfl⟩) (fun d _ => rfl) h1, h2⟩
    | true =>
      simp only [opD] at h
      split at h
      · rename_i fa hc
        obtain ⟨r, q1, q2, q3⟩ := h
        obtain ⟨σ', h1, h2⟩ := evD_run abl rest (m + 1) n hrest hlt q3
        exact ⟨σ', .cons hm (.inr ⟨hg, .inl ⟨fa.1, fa.2, r, hc, q1, q2, rfl⟩⟩) (fun d _ => has_free d _ (view_free r)) h1, h2⟩
      · rename_i hc
        unfold optE at h
        split at h
        case h_2 => exact h.elim
        rename_i v hv
        simp only [Option.bind_eq_some_iff] at hv
        obtain ⟨r, hr1, hr2⟩ := hv
        obtain ⟨σ', h1, h2⟩ := evD_run abl rest (m + 1) n hrest hlt h.2
        refine ⟨σ', .cons hm (.inr ⟨hg, .inr ⟨hc, r, hr1, hr2⟩⟩) (fun d hd => ?_) h1, h2⟩
        have := List.all_eq_true.1 h.1 d hd
        simpa using this

theorem DStep.congr {o : Oper} {σ τ : St} {v : PV} (h : ∀ t ∈ oreads ops o, σ.get t = τ.get t) (hs : DStep P eqn ops o σ v) : DStep P eqn ops o τ v := by
  have hx : ∀ x ∈ o.op.operands.toList, pev σ x = pev τ x := fun x hx => pev_alike fun t e => h t (by
    unfold oreads
    rw [List.mem_append, List.mem_filterMap]
    exact .inl ⟨x, hx, by rw [e]⟩)
  have hg : pguard ops σ o = pguard ops τ o := by
    unfold pguard
    split
    · rfl
    · rename_i j want e
      split
      · rename_i d hd
        rw [h d (by
          unfold oreads
          rw [List.mem_append, e]
          right
          simp only [hd]
          simp)]
      · rfl
  unfold DStep at hs ⊢
  rw [← hg, ← pcallee_congr hx, ← peop_congr P eqn _ _ _ hx]
  exact hs
theorem put_alike {σ τ : St} (h : Alike σ τ) (d : Option Nat) (v : PV) : Alike (Res.put σ d (.val v)) (Res.put τ d (.val v)) := by
  cases d with
  | none => exact h
  | some d => intro k; simp only [Res.put, get_set]; split; rfl; exact h k
theorem DRun.alike {l : List Nat} {σ σ' : St} (r : DRun P eqn ops ab l σ σ') : ∀ {τ : St}, Alike σ τ → ∃ τ', DRun P eqn ops ab l τ τ' ∧ Alike σ' τ' := by
  induction r with
  | nil σ => intro τ h; exact ⟨τ, .nil τ, h⟩
  | cons ho hs ha r ih =>
    intro τ h
    obtain ⟨τ', q1, q2⟩ := ih (put_alike h _ _)
    exact ⟨τ', .cons ho (hs.congr fun t _ => h t) ha q1, q2⟩
theorem Alike.symm {σ τ : St} (h : Alike σ τ) : Alike τ σ := fun k => (h k).symm
theorem Alike.trans {σ τ υ : St} (h : Alike σ τ) (h' : Alike τ υ) : Alike σ υ := fun k => (h k).trans (h' k)

/-- An operation that is apart from those ahead of it may come first. -/
theorem DRun.front {i : Nat} {oi : Oper} (hi : ops.toList[i]? = some oi) : ∀ {l1 l2 : List Nat} {σ σ' : St}, DRun P eqn ops ab (l1 ++ i :: l2) σ σ' → (∀ j ∈ l1, ∀ oj, ops.toList[j]? = some oj → indep ops oj oi = true) → ∃ σ'', DRun P eqn ops ab (i :: (l1 ++ l2)) σ σ'' ∧ Alike σ' σ''
  | [], l2, σ, σ', r, _ => ⟨σ', r, fun _ => rfl⟩
  | j :: l1, l2, σ, σ', r, hap => by
    cases r with
    | cons ho hs ha r =>
      rename_i oj v
      obtain ⟨σ2, r2, e2⟩ := DRun.front hi r fun k hk => hap k (by simp [hk])
      cases r2 with
      | cons ho2 hs2 ha2 r2 =>
        rename_i o2 v2
        rw [hi] at ho2
        injection ho2 with ho2
        subst ho2
        have hin := hap j (by simp) oj ho
        unfold indep at hin
        split at hin
        case h_2 => cases hin
        rename_i d d' hd hd'
        simp only [Bool.and_eq_true, Bool.not_eq_true', beq_eq_false_iff_ne, List.contains_eq_mem, decide_eq_false_iff_not] at hin
        obtain ⟨⟨hne, h1⟩, h2⟩ := hin
        rw [hd, hd'] at r2
        rw [hd] at hs2
        have s1 : DStep P eqn ops oi σ v2 := hs2.congr fun t ht => by
          simp only [Res.put, get_set]
          rw [if_neg (by rintro rfl; exact h1 ht)]
        have s2 : DStep P eqn ops oj (Res.put σ (some d') (.val v2)) v := hs.congr fun t ht => by
          simp only [Res.put, get_set]
          rw [if_neg (by rintro rfl; exact h2 ht)]
        have al : Alike (Res.put (Res.put σ (some d) (.val v)) (some d') (.val v2)) (Res.put (Res.put σ (some d') (.val v2)) (some d) (.val v)) := by
          intro k
          simp only [Res.put, get_set]
          by_cases e1 : d = k <;> by_cases e2 : d' = k <;> simp [e1, e2]
          exact absurd (e1.trans e2.symm) hne
        obtain ⟨σ3, r3, e3⟩ := r2.alike al
        exact ⟨σ3, .cons hi s1 ha2 (by rw [hd']; exact .cons ho s2 ha (by rw [hd]; exact r3)), e2.trans e3⟩

section
variable {w0 : Ent} {S0 : Nat → Prop} {N : Nat} {σ : St} {a : Act} {w : World} {c : Ctx}
theorem Inv.alike {τ : St} (h : Inv P w0 S0 N σ a w c) (e : Alike σ τ) : Inv P w0 S0 N τ a w c :=
  ⟨h.below, h.ok, h.sub, h.sup, fun i => by rw [← e i]; exact h.slots i, h.size, h.defers⟩

/-- One operation, carried out. -/
theorem dstep_ok (hE : ∀ t, 0 < eqn t → EqC P t (eqn t)) {i : Nat} {o : Oper} (hi : ops.toList[i]? = some o) {v : PV} (hs : DStep P eqn ops o σ v) (h : Inv P w0 S0 N σ a w c) (hd : ∀ k, o.dst = some k → k < N)
    (hal : isAlloc o.op = true → ∀ k, (σ.get k).has (o.dst.getD 0) = false) (next : Act → World → Prop) (Q : Exit → Act → World → Prop) (hn : ∀ a' w' c', Inv P w0 S0 N (Res.put σ o.dst (.val v)) a' w' c' → next a' w') : wpOp P ops Q i next a w := by
  have hiA : ops[i]? = some o := by rw [← Array.getElem?_toList]; exact hi
  unfold wpOp
  simp only [hiA]
  rcases hs with ⟨hg, rfl⟩ | ⟨hg, hs⟩
  · rw [if_neg (by rw [pguard_ok h hg]; simp)]
    exact hn _ _ _ (h.put o.dst hd (.free _ _ (.lit _)))
  · rw [if_pos (pguard_ok h hg)]
    left
    rcases hs with ⟨f, args, r, q1, q2, q3, rfl⟩ | ⟨_, r, q1, q2⟩
    · exact callE_ok (K := fun σ' => σ' = Res.put σ o.dst (.val r.view)) q1 ⟨r, q2, q3, .inl rfl⟩ h hd next Q fun σ' a' w' c' hk hinv => by subst hk; exact hn _ _ _ hinv
    · refine peop_ok hE h hd q1 next Q fun a' w' c' hinv => hn a' w' c' ?_
      cases r with
      | val u => simp only [resD, Option.some.injEq] at q2; subst q2; exact hinv
      | new u =>
        simp only [resD] at q2
        split at q2
        case isFalse => cases q2
        rename_i hal'
        injection q2 with q2
        subst q2
        refine hinv.alike fun k => ?_
        cases hdst : o.dst with
        | none => rfl
        | some d =>
          simp only [Res.put, get_set]
          split
          · rfl
          · rw [get_map _ rfl]
            have := hal hal' k
            rw [hdst] at this
            exact kill_free d _ this
      | _ => simp [resD] at q2

theorem binds_direct {o : Oper} {k : Nat} : k ∈ direct o ↔ ∃ e ∈ o.after, Region.binds .any e = true ∧ e.on = k := by
  unfold direct
  rw [List.mem_filterMap]
  constructor
  · rintro ⟨e, he, hk⟩
    split at hk
    · rename_i hb; injection hk with hk; exact ⟨e, by simpa using he, hb, hk⟩
    · cases hk
  · rintro ⟨e, he, hb, rfl⟩
    exact ⟨e, by simpa using he, by rw [if_pos hb]⟩
theorem direct_ready {ops : Array Oper} {listed : Array Bool} {i : Nat} {o : Oper} (h1 : listed.getD i true = false) (h2 : ops.toList[i]? = some o) (h3 : ∀ k ∈ direct o, listed.getD k false = true) : i ∈ Region.ready .any ops listed :=
  mem_ready.2 ⟨h1, o, by rw [← Array.getElem?_toList]; exact h2, fun e he hb => h3 _ (binds_direct.2 ⟨e, he, hb, rfl⟩)⟩

theorem getD_both {listed : Array Bool} {i n : Nat} (hs : listed.size = n) (hi : i < n) : listed.getD i true = listed.getD i false := by
  simp [Array.getD_eq_getD_getElem?, hs, hi]
theorem set_listed {listed : Array Bool} {i k n : Nat} (hs : listed.size = n) (hi : i < n) : (listed.setIfInBounds i true).getD k false = if k = i then true else listed.getD k false := by
  simp only [Array.getD_eq_getD_getElem?, Array.getElem?_setIfInBounds]
  by_cases e : k = i
  · subst e; simp [hs, hi]
  · simp [e, Ne.symm e]

/-- What 'drawOk' says. -/
structure DOk (ops : Array Oper) (ab : Nat → List Nat) (m : Nat) : Prop where
  le : m ≤ ops.toList.length
  back : ∀ j o, ops.toList[j]? = some o → ∀ k ∈ direct o, k < j
  dst : ∀ j o, ops.toList[j]? = some o → j < m → o.dst.isSome = true
  pair : ∀ i j oi oj, ops.toList[i]? = some oi → ops.toList[j]? = some oj → i < j → j < m → Reach ops i j ∨ indep ops oi oj = true
  alloc : ∀ i j oi, ops.toList[i]? = some oi → i < m → j < m → isAlloc oi.op = true → j ≠ i → Reach ops i j ∨ oi.dst.getD 0 ∈ ab j
  tail : ∀ i j, i < j → m ≤ j → j < ops.toList.length → Reach ops i j
theorem drawOk_spec {abl : List (List Nat)} {m : Nat} (h : drawOk ops abl m = true) : DOk ops (fun i => abl.getD i []) m := by
  unfold drawOk at h
  simp only [Bool.and_eq_true, decide_eq_true_eq, List.all_eq_true, List.mem_range, Bool.or_eq_true, Bool.not_eq_true', beq_iff_eq, List.contains_eq_mem] at h
  obtain ⟨⟨⟨⟨⟨h1, h2⟩, h3⟩, h4⟩, h5⟩, h6⟩ := h
  have hms : ∀ j i, ((masksGo ops.toList []).getD j 0).testBit i = true → Reach ops i j := masksGo_ok ops ops.toList [] (by simp) (by simp)
  have hat : ∀ j o, ops.toList[j]? = some o → ops.getD j default = o ∧ j < ops.size := fun j o ho => by
    rw [Array.getElem?_toList] at ho
    have := (Array.getElem?_eq_some_iff.1 ho).1
    exact ⟨by simp [Array.getD_eq_getD_getElem?, ho], this⟩
  refine ⟨by simpa using h1, fun j o ho k hk => ?_, fun j o ho hj => ?_, fun i j oi oj hi hj hij hjm => ?_, fun i j oi hi him hjm hal hne => ?_, fun i j hij hmj hj => ?_⟩
  · obtain ⟨e, hlt⟩ := hat j o ho
    exact h2 j hlt k (by rw [e]; exact hk)
  · obtain ⟨e, _⟩ := hat j o ho
    have := h3 j hj
    rwa [e] at this
  · obtain ⟨e1, _⟩ := hat i oi hi
    obtain ⟨e2, _⟩ := hat j oj hj
    have := h4 j hjm i hij
    rw [e1, e2] at this
    exact this.imp (hms j i) id
  · obtain ⟨e1, _⟩ := hat i oi hi
    have := h5 i him
    rw [e1, hal] at this
    rcases this with q | q
    · cases q
    · rcases q j hjm with (q | q) | q
      · exact absurd q hne
      · exact .inl (hms j i q)
      · exact .inr (by simpa using q)
  · have := h6 j (by simpa using hj)
    rcases this with q | q
    · omega
    · exact hms j i (q i hij)

/-- the tail: one after another -/
theorem tail_ok (hE : ∀ t, 0 < eqn t → EqC P t (eqn t)) {m : Nat} (D : DOk ops ab m) (hall : ∀ o ∈ ops.toList, ∀ k, o.dst = some k → k < N) (Q : Exit → Act → World → Prop) {K : St → Prop} (hn : ∀ σ' a' w' c', K σ' → Inv P w0 S0 N σ' a' w' c' → Q .normal a' w') :
    ∀ (l : List Oper) (j : Nat) (listed : Array Bool) {σ : St} {a : Act} {w : World} {c : Ctx}, ops.toList.drop j = l → m ≤ j → listed.size = ops.toList.length → (∀ k, k < ops.toList.length → (listed.getD k false = true ↔ k < j)) →
      evOps P eqn ops l σ K → Inv P w0 S0 N σ a w c → wpAny P .any ops Q l.length listed a w
  | [], j, listed, σ, a, w, c, hd, hmj, hs, hL, hK, h => by
    have hj : ops.toList.length ≤ j := by
      rcases Nat.lt_or_ge j ops.toList.length with q | q
      · have := congrArg List.length hd
        simp at this
        simp at q
        omega
      · exact q
    have hr : Region.ready .any ops listed = [] := by
      cases hr : Region.ready .any ops listed with
      | nil => rfl
      | cons x xs =>
        obtain ⟨q1, o, q2, _⟩ := ready_direct (i := x) (by rw [hr]; simp)
        have hx : x < ops.toList.length := by
          rcases Nat.lt_or_ge x ops.toList.length with q | q
          · exact q
          · rw [List.getElem?_eq_none q] at q2; cases q2
        rw [getD_both hs hx] at q1
        rw [(hL x hx).2 (by omega)] at q1
        cases q1
    exact ⟨hr, hn _ _ _ _ hK h⟩
  | o :: rest, j, listed, σ, a, w, c, hd, hmj, hs, hL, hK, h => by
    have hj : ops.toList[j]? = some o := by
      have := congrArg (fun l => l[0]?) hd
      simpa [List.getElem?_drop] using this
    have hjl : j < ops.toList.length := by
      rcases Nat.lt_or_ge j ops.toList.length with q | q
      · exact q
      · rw [List.getElem?_eq_none q] at hj; cases hj
    have hrest : ops.toList.drop (j + 1) = rest := by
      have := congrArg List.tail hd
      simpa [List.tail_drop] using this
    have hready : j ∈ Region.ready .any ops listed := direct_ready (by
        rw [getD_both hs hjl]
        cases hq : listed.getD j false with
        | false => rfl
        | true => have := (hL j hjl).1 hq; omega) hj fun k hk => (hL k (by have := D.back j o hj k hk; omega)).2 (D.back j o hj k hk)
    refine ⟨(fun hr => by rw [hr] at hready; cases hready), fun i hi => ?_⟩
    obtain ⟨q1, oi, q2, q3⟩ := ready_direct hi
    have hil : i < ops.toList.length := by
      rcases Nat.lt_or_ge i ops.toList.length with q | q
      · exact q
      · rw [List.getElem?_eq_none q] at q2; cases q2
    rw [getD_both hs hil] at q1
    have hij : ¬ i < j := fun e => by rw [(hL i hil).2 e] at q1; cases q1
    have hclosed : Closed ops (fun k => listed.getD k false = true) := fun k ok hk hl k' hk' => by
      have hkl : k < ops.toList.length := by
        rcases Nat.lt_or_ge k ops.toList.length with q | q
        · exact q
        · rw [List.getElem?_eq_none q] at hk; cases hk
      have := (hL k hkl).1 hl
      have := D.back k ok hk k' hk'
      exact (hL k' (by omega)).2 (by omega)
    have hie : i = j := by
      rcases Nat.lt_or_ge j i with q | q
      · have := reach_listed hclosed (D.tail j i q (by omega) hil) oi q2 q3
        have := (hL j hjl).1 this
        omega
      · omega
    subst hie
    rw [hj] at q2
    injection q2 with q2
    subst q2
    have hnext : ∀ {σ' : St} {a' : Act} {w' : World} {c' : Ctx}, evOps P eqn ops rest σ' K → Inv P w0 S0 N σ' a' w' c' → wpAny P .any ops Q rest.length (listed.setIfInBounds i true) a' w' := fun hk hi => by
      refine tail_ok hE D hall Q hn rest (i + 1) _ hrest (by omega) (by simpa using hs) (fun k hk => ?_) hk hi
      rw [set_listed hs hjl]
      by_cases e : k = i
      · subst e; simp
      · rw [if_neg e, hL k hk]; omega
    have hiA : ops[i]? = some o := by rw [← Array.getElem?_toList]; exact hj
    unfold wpOp
    simp only [hiA]
    simp only [evOps, optE] at hK
    split at hK
    case h_2 => exact hK.elim
    rename_i b hg
    cases b with
    | true =>
      rw [if_pos (pguard_ok h hg)]
      exact .inl (opE_ok hE hK h (hall o (List.mem_of_getElem? hj)) _ _ fun σ' a' w' c' hk hi => hnext hk hi)
    | false =>
      rw [if_neg (by rw [pguard_ok h hg]; simp)]
      exact hnext hK (h.put o.dst (hall o (List.mem_of_getElem? hj)) (.free _ _ (.lit _)))

/-- the part whose operations may change places -/
theorem draw_ok (hE : ∀ t, 0 < eqn t → EqC P t (eqn t)) {m : Nat} (D : DOk ops ab m) (hall : ∀ o ∈ ops.toList, ∀ k, o.dst = some k → k < N) (Q : Exit → Act → World → Prop) {K : St → Prop} (hn : ∀ σ' a' w' c', K σ' → Inv P w0 S0 N σ' a' w' c' → Q .normal a' w') :
    ∀ (n : Nat) (l : List Nat) (listed : Array Bool) {σ σ' : St} {a : Act} {w : World} {c : Ctx}, l.length = n → l.Pairwise (· < ·) → (∀ k ∈ l, k < m) → listed.size = ops.toList.length → (∀ k, k < ops.toList.length → (listed.getD k false = true ↔ k < m ∧ k ∉ l)) →
      Closed ops (fun k => listed.getD k false = true) → (∀ i oi, i ∈ l → ops.toList[i]? = some oi → isAlloc oi.op = true → ∀ k, (σ.get k).has (oi.dst.getD 0) = false) →
      ∀ {σ0 : St}, DRun P eqn ops ab l σ σ' → Alike σ0 σ' → evOps P eqn ops (ops.toList.drop m) σ0 K → Inv P w0 S0 N σ a w c → wpAny P .any ops Q (n + (ops.toList.length - m)) listed a w
  | 0, l, listed, σ, σ', a, w, c, hl, hp, hm, hs, hL, hc, hna, σ0, hrun, he0, hK, h => by
    have : l = [] := List.eq_nil_of_length_eq_zero hl
    subst this
    cases hrun
    have := tail_ok hE D hall Q hn (ops.toList.drop m) m listed rfl (Nat.le_refl _) hs (fun k hk => by rw [hL k hk]; simp) hK (h.alike he0.symm)
    simpa using this
  | n + 1, l, listed, σ, σ', a, w, c, hl, hp, hm, hs, hL, hc, hna, σ0, hrun, he0, hK, h => by
    have hidx : ∀ i ∈ l, i < ops.toList.length := fun i hi => Nat.lt_of_lt_of_le (hm i hi) D.le
    -- the least one is ready
    have hne : Region.ready .any ops listed ≠ [] := by
      cases l with
      | nil => simp at hl
      | cons i l =>
        have hil := hidx i (by simp)
        intro hr
        have : i ∈ Region.ready .any ops listed := direct_ready (o := ops.toList[i]) (by
            rw [getD_both hs hil]
            cases hq : listed.getD i false with
            | false => rfl
            | true => have := (hL i hil).1 hq; simp at this) (List.getElem?_eq_getElem hil) fun k hk => by
          have hki := D.back i _ (List.getElem?_eq_getElem hil) k hk
          have him := hm i (by simp)
          refine (hL k (by omega)).2 ⟨by omega, fun hkl => ?_⟩
          rcases List.mem_cons.1 hkl with rfl | hkl
          · omega
          · have := (List.pairwise_cons.1 hp).1 k hkl; omega
        rw [hr] at this
        cases this
    rw [show n + 1 + (ops.toList.length - m) = n + (ops.toList.length - m) + 1 from by omega]
    refine ⟨fun hr => absurd hr hne, fun i hi => ?_⟩
    obtain ⟨q1, oi, q2, q3⟩ := ready_direct hi
    have hil : i < ops.toList.length := by
      rcases Nat.lt_or_ge i ops.toList.length with q | q
      · exact q
      · rw [List.getElem?_eq_none q] at q2; cases q2
    rw [getD_both hs hil] at q1
    have him : i ∈ l := by
      apply Classical.byContradiction
      intro hn'
      by_cases hlt : i < m
      · have := (hL i hil).2 ⟨hlt, hn'⟩
        rw [this] at q1; cases q1
      · cases l with
        | nil => simp at hl
        | cons j l =>
          have hj := hm j (by simp)
          have := reach_listed hc (D.tail j i (by omega) (by omega) hil) oi q2 q3
          have := (hL j (by omega)).1 this
          exact this.2 (by simp)
    obtain ⟨l1, l2, rfl⟩ := List.append_of_mem him
    have hp1 := List.pairwise_append.1 hp
    have hap : ∀ j ∈ l1, ∀ oj, ops.toList[j]? = some oj → indep ops oj oi = true := fun j hj oj hoj => by
      have hji : j < i := hp1.2.2 j hj i (by simp)
      rcases D.pair j i oj oi hoj q2 hji (hm i him) with r | r
      · have := reach_listed hc r oi q2 q3
        have := (hL j (by have := hm i him; have := D.le; omega)).1 this
        exact absurd (by simp [hj]) this.2
      · exact r
    obtain ⟨σ2, r2, e2⟩ := hrun.front q2 hap
    cases r2 with
    | cons ho hst hab r2 =>
      rename_i o2 v
      rw [q2] at ho
      injection ho with ho
      subst ho
      refine dstep_ok hE q2 hst h (hall oi (List.mem_of_getElem? q2)) (fun hal k => hna i oi him q2 hal k) _ Q fun a' w' c' hinv => ?_
      have hnm : ∀ k, k ∈ l1 ++ l2 ↔ k ∈ l1 ++ i :: l2 ∧ k ≠ i := by
        intro k
        simp only [List.mem_append, List.mem_cons]
        constructor
        · rintro (q | q)
          · exact ⟨.inl q, fun e => by subst e; have := hp1.2.2 k q k (by simp); omega⟩
          · exact ⟨.inr (.inr q), fun e => by subst e; have := (List.pairwise_cons.1 hp1.2.1).1 k q; omega⟩
        · rintro ⟨q | q | q, hne⟩
          · exact .inl q
          · exact absurd q hne
          · exact .inr q
      refine draw_ok hE D hall Q hn n (l1 ++ l2) (listed.setIfInBounds i true) (by simp at hl ⊢; omega) ?_ (fun k hk => hm k ((hnm k).1 hk).1) (by simpa using hs) (fun k hk => ?_) (fun k ok hok hlk k' hk' => ?_) (fun j oj hj hoj hal k => ?_) r2 (he0.trans e2) hK hinv
      · exact List.pairwise_append.2 ⟨hp1.1, (List.pairwise_cons.1 hp1.2.1).2, fun x hx y hy => hp1.2.2 x hx y (by simp [hy])⟩
      · rw [set_listed hs hil]
        by_cases e : k = i
        · subst e; simp only [if_true, true_iff]; exact ⟨hm k him, fun q => ((hnm k).1 q).2 rfl⟩
        · rw [if_neg e, hL k hk, hnm k]
          constructor
          · rintro ⟨x, y⟩; exact ⟨x, fun z => y z.1⟩
          · rintro ⟨x, y⟩; exact ⟨x, fun z => y ⟨z, e⟩⟩
      · simp only [set_listed hs hil] at hlk ⊢
        by_cases e : k' = i
        · rw [if_pos e]
        · rw [if_neg e]
          by_cases e2 : k = i
          · subst e2
            rw [q2] at hok
            injection hok with hok
            subst hok
            exact q3 k' hk'
          · rw [if_neg e2] at hlk
            exact hc k ok hok hlk k' hk'
      · have hjl := (hnm j).1 hj
        have hold := hna j oj hjl.1 hoj hal k
        cases hdst : oi.dst with
        | none => exact hold
        | some d =>
          simp only [Res.put, get_set]
          split
          · rcases D.alloc j i oj hoj (hm j hjl.1) (hm i him) hal (Ne.symm hjl.2) with r | r
            · have := reach_listed hc r oi q2 q3
              have hjlen := hidx j hjl.1
              have := (hL j hjlen).1 this
              exact absurd hjl.1 this.2
            · exact hab _ r
          · exact hold

theorem killAll_inv {m : Nat} (h : Inv P w0 S0 N σ a w c) : Inv P w0 S0 N (killAll ops m σ) a w c := by
  unfold killAll
  generalize ((ops.toList.take m).filter fun o => isAlloc o.op) = l
  induction l generalizing σ with
  | nil => exact h
  | cons o l ih =>
    refine ih ⟨h.below, h.ok, h.sub, h.sup, fun i => ?_, h.size, h.defers⟩
    rw [get_map _ rfl]
    exact (h.slots i).kill _
theorem killAll_has {m : Nat} (σ : St) {o : Oper} (ho : o ∈ ops.toList.take m) (hal : isAlloc o.op = true) (k : Nat) : ((killAll ops m σ).get k).has (o.dst.getD 0) = false := by
  unfold killAll
  have hm : o ∈ (ops.toList.take m).filter fun o => isAlloc o.op := List.mem_filter.2 ⟨ho, hal⟩
  generalize ((ops.toList.take m).filter fun o => isAlloc o.op) = l at hm
  have keep : ∀ (l : List Oper) (σ : St) (d : Nat), (∀ k, (σ.get k).has d = false) → ∀ k, ((l.foldl (fun s o => s.map (PV.kill (o.dst.getD 0))) σ).get k).has d = false := by
    intro l
    induction l with
    | nil => intro σ d h k; exact h k
    | cons o' l ih =>
      intro σ d h k
      refine ih _ d (fun k => ?_) k
      rw [get_map _ rfl]
      cases hq : ((σ.get k).kill (o'.dst.getD 0)).has d with
      | false => rfl
      | true => have := has_of_kill _ _ _ hq; rw [h k] at this; cases this
  induction l generalizing σ with
  | nil => cases hm
  | cons o' l ih =>
    rcases List.mem_cons.1 hm with rfl | hm
    · simp only [List.foldl_cons]
      exact keep l _ _ (fun k => by rw [get_map _ rfl]; exact has_kill _ _) k
    · exact ih _ hm

/-- **A region that draws its order.** -/
theorem drawE_ok (hE : ∀ t, 0 < eqn t → EqC P t (eqn t)) (hmix : P.follows .mixedOrders = true) {id : Nat} (hall : ∀ o ∈ ops.toList, ∀ k, o.dst = some k → k < N) {K : St → Prop} (hK : drawE P eqn ops σ K) (h : Inv P w0 S0 N σ a w c)
    (Q : Exit → Act → World → Prop) (hn : ∀ σ' a' w' c', K σ' → Inv P w0 S0 N σ' a' w' c' → Q .normal a' w') : (Code.region id ops true).wp P Q a w := by
  obtain ⟨abl, m, hok, hev⟩ := hK
  have D := drawOk_spec hok
  refine wp_region_any hmix ?_
  obtain ⟨σ', hrun, hk⟩ := evD_run (ops := ops) abl (ops.toList.take m) 0 m (by simp) (Nat.zero_le _) (by simpa using hev)
  have hlen : (ops.toList.take m).length = m := by have := D.le; simp at this ⊢; omega
  rw [hlen] at hrun
  have hdrew : Below w.heap.size w { w with drawn := w.drawn + 1 } := ⟨rfl, rfl, rfl, Nat.le_refl _, fun _ _ => rfl⟩
  have := draw_ok hE D hall Q hn m (List.range' 0 m) (Array.replicate ops.size false) (by simp) (by rw [← List.range_eq_range']; exact List.pairwise_lt_range) (fun k hk => by simpa using hk) (by simp) (fun k hk => ?_) (fun j o _ hl k _ => ?_) (fun i oi hi hoi hal k => ?_) hrun (fun _ => rfl) hk (killAll_inv (h.ext hdrew))
  · have e : m + (ops.toList.length - m) = ops.size := by have := D.le; simp at this ⊢; omega
    rwa [e] at this
  · have : (Array.replicate ops.size false).getD k false = false := by simp [Array.getD_eq_getD_getElem?, Array.getElem?_replicate]; split <;> rfl
    simp only [this, Bool.false_eq_true, false_iff, not_and, Classical.not_not]
    intro hkm
    simpa using hkm
  · have : (Array.replicate ops.size false).getD j false = false := by simp [Array.getD_eq_getD_getElem?, Array.getElem?_replicate]; split <;> rfl
    simp only [this] at hl
    cases hl
  · have him : i < m := by simpa using hi
    exact killAll_has σ (List.mem_of_getElem? (i := i) (by rw [List.getElem?_take, if_pos him]; exact hoi)) hal k
end
end
end Go.VI
