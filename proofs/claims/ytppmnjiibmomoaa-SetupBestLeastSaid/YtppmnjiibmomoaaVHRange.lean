/- A range over a map: its operations, and loops whose rounds are known by a relation alone. -/
import Derived.Test.YtppmnjiibmomoaaVHGen
import Derived.Maps.RangeRun
set_option linter.unusedVariables false
set_option linter.unusedSimpArgs false
set_option linter.unusedSectionVars false
namespace Go.VI
open Go.RowKit

section
variable {P : Program} {E : Ent} {S0 : Nat → Prop} {N : Nat} {σ : St} {a : Act} {w : World} {c : Ctx}
theorem range_ok {o : Oper} {t : TypeId} {x : Operand} {m : List (Int × Int)} (ho : o.op = .range t x) (ht : tMap P t = true) (hx : pev σ x = .fmap m) (h : Inv P E S0 N σ a w c) (hd : ∀ k, o.dst = some k → k < N) :
    Does P E S0 N o a w (Res.put σ o.dst (.new (o.dst.getD 0) (.it m none) (.ptr (o.dst.getD 0) 0))) := by
  obtain ⟨kt, e, hu, hk, hz⟩ := tMap_some ht
  have rx := h.ev x
  rw [hx] at rx
  obtain ⟨b, hX, hS, hm⟩ : ∃ b, a.eval x = .map (some b) ∧ c.S b ∧ MapRep w b m := by
    generalize a.eval x = X at rx
    cases rx with
    | free _ _ hf => cases hf with
      | fmap _ b hb hm => exact ⟨b, rfl, hb, hm⟩
  obtain ⟨es, cl, h1, h2, h3, h4⟩ := hm
  have hb : Below w.heap.size w (w.alloc (.mapIter (some b) cl #[] cl)) := (Below.refl _ _).alloc (Nat.le_refl _) _
  have hexec : (execOp a.eval o).run P w = .ok (.value (.pointer (some ⟨w.heap.size, 0, none⟩))) (w.alloc (.mapIter (some b) cl #[] cl)) := by
    unfold execOp
    simp only [ho, hX, run_range_map w t kt e b es cl hu h1, Sem.run_bind, Sem.run_pure, Result.andThen_ok]
  let c' := c.lay (o.dst.getD 0) w.heap.size undef 0 True
  have hok : c'.Ok E.M (w.alloc (.mapIter (some b) cl #[] cl)) := lay_ok h.ok hb.size (fun _ => ⟨h.below.mine (Nat.le_refl _), by simp, fun hS => by have := h.ok.hS _ hS; omega⟩) fun _ k' _ hg' e => by have := (h.ok.hD k' hg').2.1; omega
  have e1 : c'.τ (.top (o.dst.getD 0)) = w.heap.size := lay_top.1
  refine does_new (dst_small h hd) h hd hexec hb hok (fun _ => Iff.rfl) (fun k hk => ⟨lay_agree hk, (lay_D hk).2⟩) ⟨lay_top.2.2.2.2 trivial, ⟨b, es, cl, cl, #[], cl, hS, (hb.block b (h.ok.hS b hS)).trans h1, h3, h4, Nat.le_refl _, Nat.le_refl _, by rw [e1]; exact heap_alloc_new w _, by rw [show (es.toList.filter fun e => !(#[] : Array Nat).contains e.born) = es.toList from List.filter_eq_self.2 fun x _ => by simp]; exact h2, fun k v hq => by cases hq⟩⟩ ?_
  have := RV.ptr (P := P) (w := w.alloc (.mapIter (some b) cl #[] cl)) (c := c') (o.dst.getD 0) 0
  rwa [e1] at this
theorem filter_erase {L : List MapEntry} (hn : (L.map (·.born)).Nodup) : ∀ {i : Nat} {e : MapEntry}, L[i]? = some e → L.filter (fun x => !(x.born == e.born)) = L.eraseIdx i := by
  induction L with
  | nil => intro i e h; simp at h
  | cons x L ih =>
    intro i e h
    simp only [List.map_cons, List.nodup_cons] at hn
    cases i with
    | zero =>
      simp at h; subst h
      have : L.filter (fun y => !(y.born == x.born)) = L := List.filter_eq_self.2 fun y hy => by
        have : y.born ≠ x.born := fun q => hn.1 (by rw [← q]; exact List.mem_map.2 ⟨y, hy, rfl⟩)
        simp [this]
      simp [this]
    | succ i =>
      simp only [List.getElem?_cons_succ] at h
      have hne : x.born ≠ e.born := fun q => hn.1 (by rw [q]; exact List.mem_map.2 ⟨e, List.mem_of_getElem? h, rfl⟩)
      rw [List.filter_cons, if_pos (by simp [hne]), ih hn.2 h]
      rfl
/-- what 'next' may do -/
theorem next_ok {o : Oper} {x : Operand} {g : Nat} {left : List (Int × Int)} {cur : Option (Int × Int)} (ho : o.op = .next x false) (hx : pev σ x = .ptr g 0) (hg : σ.hget g = some (.it left cur)) (h : Inv P E S0 N σ a w c) (hd : ∀ k, o.dst = some k → k < N)
    (next : Act → World → Prop) (Q : Exit → Act → World → Prop) (h0 : left = [] → ∀ a' w' c', Inv P E S0 N (setO σ o.dst (.tup [.lit (.bool false)])) a' w' c' → next a' w')
    (h1 : ∀ i kv, left[i]? = some kv → ∀ a' w' c', Inv P E S0 N (setO (σ.put g (.it (left.eraseIdx i) (some kv))) o.dst (.tup [.lit (.bool true), .lit (.int .i64 kv.1), .lit (.int .i64 kv.2)])) a' w' c' → next a' w') : o.wp P a w next Q := by
  have rx := h.ev x
  rw [hx] at rx
  have hX : a.eval x = .pointer (some ⟨c.τ (.top g), 0, none⟩) := by
    generalize a.eval x = X at rx
    cases rx with
    | free _ _ hf => cases hf
    | ptr => rfl
  obtain ⟨hD, b, es, cl, since, seen, c0, hS, hb, hnd, hold, hsc, hscl, hr, hleft, hcur⟩ := h.objs g _ hg
  rcases run_next_at (P := P) w o.type (c.τ (.top g)) b since c0 seen es cl hr hb hold hsc with ⟨q0, hrun⟩ | ⟨e, he, w1, hal, hrun⟩
  · have hl : left = [] := by
      have : (leftOf es seen).toList = [] := by rw [← List.length_eq_zero_iff, Array.length_toList]; exact q0
      unfold leftOf at this
      rw [Array.toList_filter] at this
      rw [this] at hleft
      simpa using hleft.symm
    have hexec : (execOp a.eval o).run P w = .ok (.value (.tuple #[.bool false])) w := by
      unfold execOp
      simp only [ho, hX, hrun, Sem.run_bind, Sem.run_pure, Result.andThen_ok]
    have := does_value h hd hexec (pv := .tup [.lit (.bool false)]) (.free _ _ (.tup _ _ rfl fun i pv hgi => by
      match i, hgi with
      | 0, hgi => simp at hgi; subst hgi; exact .lit _))
    refine this next Q fun a' w' c' hi => h0 hl a' w' c' ?_
    rw [put_eq] at hi; exact hi
  · have hem : e ∈ es.toList ∧ seen.contains e.born = false := by
      unfold leftOf at he
      rw [Array.toList_filter, List.mem_filter] at he
      exact ⟨he.1, by simpa using he.2⟩
    obtain ⟨i, hi⟩ : ∃ i, (es.toList.filter fun e => !seen.contains e.born)[i]? = some e := by
      unfold leftOf at he
      rw [Array.toList_filter] at he
      exact List.mem_iff_getElem?.1 he
    have hkv : ∃ kv, left[i]? = some kv ∧ e.key = .int .i64 kv.1 ∧ e.val = .int .i64 kv.2 := by
      have := congrArg (fun l => l[i]?) hleft
      simp only [List.getElem?_map, hi, Option.map_some] at this
      cases hq : left[i]? with
      | none => rw [hq] at this; cases this
      | some kv =>
        rw [hq] at this
        simp only [Option.map_some, Option.some.injEq, Prod.mk.injEq] at this
        exact ⟨kv, rfl, this.1, this.2⟩
    obtain ⟨kv, hlk, hk1, hk2⟩ := hkv
    have hexec : (execOp a.eval o).run P w = .ok (.value (.tuple #[.bool true, e.key, e.val])) (ChangeMaps.setBlock w1 (c.τ (.top g)) (.mapIter (some b) since (seen.push e.born) cl)) := by
      unfold execOp
      simp only [ho, hX, hrun, Sem.run_bind, Sem.run_pure, Result.andThen_ok]
    have hw1 : w1.heap = w.heap ∧ w1.os = w.os ∧ w1.tape = w.tape ∧ w1.output = w.output := by rcases hal with rfl | rfl <;> exact ⟨rfl, rfl, rfl, rfl⟩
    generalize hw' : ChangeMaps.setBlock w1 (c.τ (.top g)) (.mapIter (some b) since (seen.push e.born) cl) = w' at hexec
    have hlt : c.τ (.top g) < w.heap.size := (h.ok.hD _ hD).2.1
    have hwh : w'.heap = w.heap.setIfInBounds (c.τ (.top g)) (.mapIter (some b) since (seen.push e.born) cl) := by rw [← hw']; simp [ChangeMaps.setBlock, hw1.1]
    have hsz : w'.heap.size = w.heap.size := by rw [hwh]; simp
    have hoth : ∀ b', b' ≠ c.τ (.top g) → w'.heap[b']? = w.heap[b']? := fun b' hne => by rw [hwh]; simp [Array.getElem?_setIfInBounds, Ne.symm hne]
    have hat : w'.heap[c.τ (.top g)]? = some (.mapIter (some b) since (seen.push e.born) cl) := by rw [hwh]; simp [hlt]
    have hbne : b ≠ c.τ (.top g) := fun q => (h.ok.hD _ hD).2.2 (q ▸ hS)
    have hobs : HRep P w' c g (.it (left.eraseIdx i) (some kv)) := by
      refine ⟨hD, b, es, cl, since, seen.push e.born, cl, hS, (hoth b hbne).trans hb, hnd, hold, hscl, hscl, hat, ?_, fun k v hq => ?_⟩
      · have hf : (es.toList.filter fun x => !(seen.push e.born).contains x.born) = (es.toList.filter fun x => !seen.contains x.born).filter fun x => !(x.born == e.born) := by
          rw [List.filter_filter]
          apply List.filter_congr
          intro x _
          have : (seen.push e.born).contains x.born = (seen.contains x.born || (x.born == e.born)) := by
            rw [Bool.eq_iff_iff]
            simp
          rw [this]
          cases seen.contains x.born <;> cases (x.born == e.born) <;> rfl
        have hnd' : ((es.toList.filter fun x => !seen.contains x.born).map (·.born)).Nodup := hnd.sublist (List.Sublist.map _ List.filter_sublist)
        rw [hf, filter_erase hnd' hi]
        have er : ∀ (l : List MapEntry) (l2 : List (Int × Int)) (i : Nat), l.map (fun e => (e.key, e.val)) = l2.map (fun p => (Value.int .i64 p.1, Value.int .i64 p.2)) → (l.eraseIdx i).map (fun e => (e.key, e.val)) = (l2.eraseIdx i).map (fun p => (Value.int .i64 p.1, Value.int .i64 p.2)) := by
          intro l
          induction l with
          | nil => intro l2 i h; cases l2 with
            | nil => simp
            | cons => simp at h
          | cons x l ih => intro l2 i h; cases l2 with
            | nil => simp at h
            | cons y l2 =>
              simp only [List.map_cons, List.cons.injEq] at h
              cases i with
              | zero => simpa using h.2
              | succ i => simp only [List.eraseIdx_cons_succ, List.map_cons, h.1, ih l2 i h.2]
        exact er _ _ _ hleft
      · injection hq with hq
        subst hq
        exact ⟨e, seen, hem.1, rfl, rfl, hk1, hk2⟩
    have hinv := h.turn (k0 := .top g) hD hsz hoth (by rw [← hw']; exact hw1.2.1) (by rw [← hw']; exact hw1.2.2.1) (by rw [← hw']; exact hw1.2.2.2) hobs
    have hrv : RV P w' c (.tup [.lit (.bool true), .lit (.int .i64 kv.1), .lit (.int .i64 kv.2)]) (.tuple #[.bool true, e.key, e.val]) := .free _ _ (.tup _ _ rfl fun i pv hgi => by
      match i, hgi with
      | 0, hgi => simp at hgi; subst hgi; exact .lit _
      | 1, hgi => simp at hgi; subst hgi; rw [← hk1]; exact .lit _
      | 2, hgi => simp at hgi; subst hgi; rw [← hk2]; exact .lit _)
    have := does_mut (σ := σ) (r := ⟨[], [(g, .it (left.eraseIdx i) (some kv))], .tup [.lit (.bool true), .lit (.int .i64 kv.1), .lit (.int .i64 kv.2)]⟩) (c' := c) hd (.inl hexec) hinv hrv
    refine this next Q fun a' w' c' hi' => h1 i kv hlk a' w' c' ?_
    rw [put_eq] at hi'; exact hi'
theorem entry_ok {o : Oper} {x : Operand} {g : Nat} {left : List (Int × Int)} {k v : Int} (ho : o.op = .entry x) (hx : pev σ x = .ptr g 0) (hg : σ.hget g = some (.it left (some (k, v)))) (h : Inv P E S0 N σ a w c) (hd : ∀ k, o.dst = some k → k < N) :
    Does P E S0 N o a w (Res.put σ o.dst (.val (.tup [.lit (.int .i64 k), .lit (.int .i64 v)]))) := by
  have rx := h.ev x
  rw [hx] at rx
  have hX : a.eval x = .pointer (some ⟨c.τ (.top g), 0, none⟩) := by
    generalize a.eval x = X at rx
    cases rx with
    | free _ _ hf => cases hf
    | ptr => rfl
  obtain ⟨hD, b, es, cl, since, seen, c0, hS, hb, hnd, hold, hsc, hscl, hr, hleft, hcur⟩ := h.objs g _ hg
  obtain ⟨e, seen', q1, rfl, rfl, q2, q3⟩ := hcur k v rfl
  have hrun := run_entry_at (P := P) w (c.τ (.top g)) b since seen' es c0 e hr hb q1 hnd
  refine does_value h hd (v := .tuple #[e.key, e.val]) ?_ (.free _ _ (.tup _ _ rfl fun i pv hgi => by
      match i, hgi with
      | 0, hgi => simp at hgi; subst hgi; rw [← q2]; exact .lit _
      | 1, hgi => simp at hgi; subst hgi; rw [← q3]; exact .lit _))
  unfold execOp
  simp only [ho, hX, hrun, Sem.run_bind, Sem.run_pure, Result.andThen_ok]
end

section
variable {G : Prg} {ops : Array Oper} {k : Nat} {σ : St} {K : St → Prop}
/-- An operation whose deed is known. -/
theorem evs_does {o : Oper} (ho : opAt ops k = some o) (hg : pguard ops σ o = some true) {σ' : St} (h : ∀ {E : Ent} {S0 : Nat → Prop} {N : Nat} {a : Act} {w : World} {c : Ctx}, Inv G.P E S0 N σ a w c → (∀ k, o.dst = some k → k < N) → Does G.P E S0 N o a w σ') (next : EVS G ops (k + 1) σ' K) : EVS G ops k σ K :=
  evs_one ho hg (fun _ E S0 N a w c hi hd nx Q hn => h hi hd nx Q fun a' w' c' hi' => hn _ _ _ _ next hi') fun e => nomatch e
def rangeAt (G : Prg) (ops : Array Oper) (k : Nat) (σ : St) : Option (PV × Nat) := match onAt ops k σ with
  | some o => (match o.op with
    | .range t x => if tMap G.P t = true then some (pev σ x, o.dst.getD 0) else none
    | _ => none)
  | none => none
theorem evs_range {m : List (Int × Int)} {d : Nat} (h : rangeAt G ops k σ = some (.fmap m, d)) (next : EVS G ops (k + 1) (Res.put σ (dstAt ops k) (.new d (.it m none) (.ptr d 0))) K) : EVS G ops k σ K := by
  unfold rangeAt at h
  split at h
  case h_2 => cases h
  rename_i o ho
  split at h
  case h_2 => cases h
  rename_i t x hop
  split at h
  case isFalse => cases h
  rename_i ht
  simp only [Option.some.injEq, Prod.mk.injEq] at h
  obtain ⟨hx, rfl⟩ := h
  obtain ⟨h1, h2⟩ := onAt_spec ho
  rw [dstAt_eq h1] at next
  exact evs_does h1 h2 (fun hi hd => range_ok hop ht hx hi hd) next
def nextAt (ops : Array Oper) (k : Nat) (σ : St) : Option PV := match onAt ops k σ with
  | some o => (match o.op with
    | .next x false => some (pev σ x)
    | _ => none)
  | none => none
theorem evs_next {g : Nat} {left : List (Int × Int)} {cur : Option (Int × Int)} (h : nextAt ops k σ = some (.ptr g 0)) (hg : σ.hget g = some (.it left cur)) (h0 : left = [] → EVS G ops (k + 1) (setO σ (dstAt ops k) (.tup [vB false])) K)
    (h1 : ∀ i kv, left[i]? = some kv → EVS G ops (k + 1) (setO (σ.put g (.it (left.eraseIdx i) (some kv))) (dstAt ops k) (.tup [vB true, vI kv.1, vI kv.2])) K) : EVS G ops k σ K := by
  unfold nextAt at h
  split at h
  case h_2 => cases h
  rename_i o ho
  split at h
  case h_2 => cases h
  rename_i x hop
  injection h with hx
  obtain ⟨q1, q2⟩ := onAt_spec ho
  rw [dstAt_eq q1] at h0 h1
  exact evs_one q1 q2 (fun _ E S0 N a w c hi hd nx Q hn => next_ok hop hx hg hi hd nx Q (fun hl a' w' c' hi' => hn _ _ _ _ (h0 hl) hi') fun i kv hkv a' w' c' hi' => hn _ _ _ _ (h1 i kv hkv) hi') fun e => nomatch e
def entryAt (ops : Array Oper) (k : Nat) (σ : St) : Option PV := match onAt ops k σ with
  | some o => (match o.op with
    | .entry x => some (pev σ x)
    | _ => none)
  | none => none
theorem evs_entry {g : Nat} {left : List (Int × Int)} {u v : Int} (h : entryAt ops k σ = some (.ptr g 0)) (hg : σ.hget g = some (.it left (some (u, v)))) (next : EVS G ops (k + 1) (setO σ (dstAt ops k) (.tup [vI u, vI v])) K) : EVS G ops k σ K := by
  unfold entryAt at h
  split at h
  case h_2 => cases h
  rename_i o ho
  split at h
  case h_2 => cases h
  rename_i x hop
  injection h with hx
  obtain ⟨h1, h2⟩ := onAt_spec ho
  rw [dstAt_eq h1] at next
  refine evs_does h1 h2 (fun hi hd => ?_) next
  have := entry_ok hop hx hg hi hd
  rwa [put_eq] at this
end
section
variable {G : Prg} {cd : Code} {σ : St} {K : PX → St → Prop}
/-- A loop whose rounds are known by a relation: each round leads nearer to the end. -/
theorem sem_loop_rel {S : Type} (emb : S → St) (I : S → Prop) (μ : S → Nat) (s : S) (hk : knd cd = 6) (h0 : SubR G.P (emb s) σ) (hs : I s)
    (hbody : ∀ s, I s → SEM G (cL cd) (emb s) (fun px τ => (px = .normal ∧ ∃ s', I s' ∧ μ s' < μ s ∧ SubR G.P (emb s') τ) ∨ (isN px = false ∧ K px τ))) : SEM G cd σ K := by
  refine sem_subR h0 ?_
  cases cd <;> simp [knd] at hk
  · rename_i b; cases b <;> simp [knd] at hk
  rename_i x
  intro E S0 N a w c hd hi
  have key : ∀ n s, μ s < n → I s → ∀ a w c, Inv G.P E S0 N (emb s) a w c → Code.rounds G.P x (fun e a' w' => ∃ px σ' c', PX.like px e ∧ K px σ' ∧ Inv G.P E S0 N σ' a' w' c') n a w := by
    intro n
    induction n with
    | zero => intro s h; exact absurd h (Nat.not_lt_zero _)
    | succ n ih =>
      intro s hlt hI a w c hi
      rw [rounds_succ]
      refine wp_mono (hbody s hI E S0 N a w c (by rw [dstOk] at hd; exact hd) hi) fun e a' w' he => ?_
      obtain ⟨px, σ', c', hl, hk, hi'⟩ := he
      rcases hk with ⟨rfl, s', h1, h2, h3⟩ | ⟨h1, h2⟩
      · cases e <;> simp only [PX.like] at hl
        obtain ⟨c2, hi2⟩ := h3 hi'
        exact ih s' (by omega) h1 _ _ _ hi2
      · cases px <;> cases e <;> simp only [PX.like] at hl
        · cases h1
        · subst hl; exact ⟨.exit _, σ', c', rfl, h2, hi'⟩
        · exact ⟨.ret, σ', c', trivial, h2, hi'⟩
  exact wp_loop_rounds (μ s + 1) (key _ s (Nat.lt_succ_self _) hs a w c hi)
end
end Go.VI
