/- The evaluator, part 4. -/
import Derived.Test.YtppmnjiibmomoaaVHC3
import Derived.Maps.RangeRun
import Derived.Laws.CopyRow
/- A slice written out of one row of one's own. -/
set_option linter.unusedVariables false
set_option linter.unusedSimpArgs false
set_option linter.unusedSectionVars false
namespace Go.VI
open Go.RowKit

section
variable {P : Program} {E : Ent} {S0 : Nat → Prop} {N : Nat} {σ : St} {a : Act} {w : World} {c : Ctx}
def takeK (d T : Nat) (k : Key) : Bool := ofTag d k || ofTag T k
theorem buildJ_ok {o : Oper} {t e e' d T : Nat} {x : Operand} {es' : List (List PV)} (ho : o.op = .buildSlice t 1 #[(0, x)]) (ht : tElem P t = some e) (hrow : tRow P e = true) (h1 : tSize P e = 1) (hT : T = o.dst.getD 0) (hd1 : d < PIN) (hne : d ≠ T)
    (hx : pev σ x = .row (.top d) e') (hrd : σ.hget d = some (.row e' [] es')) (h : Inv P E S0 N σ a w c) (hd : ∀ k, o.dst = some k → k < N) :
    Does P E S0 N o a w (Res.put σ o.dst ⟨[takeK d T], [(T, .row e [(0, e')] [[.sl es']])], .row (.top T) e⟩) := by
  have hTN : T < PIN := by rw [hT]; exact dst_small h hd
  have rx := h.ev x
  rw [hx] at rx
  have hX : a.eval x = c.hd (.top d) := by
    generalize a.eval x = X at rx
    cases rx with
    | free _ _ hf => cases hf
    | row => rfl
  obtain ⟨xsd, rd⟩ := h.objs d _ hrd
  have hone := rd.hd_one
  have hcell1 : (c.hd (.top d)).cells = #[c.hd (.top d)] := cells_of_one hone
  have hrun := run_buildSlice (P := P) (a := a) (w := w) (parts := #[(0, x)]) (len := 1) ht rfl (by omega) (by omega) hrow (fun p hp => by simp at hp; subst hp; simp only; rw [hX, hcell1, h1]; rfl)
  have hcells : (List.flatMap (fun (p : Nat × Operand) => (a.eval p.2).cells.toList) #[(0, x)].toList) = [c.hd (.top d)] := by simp [hX, hcell1]
  rw [hcells] at hrun
  have hexec : (execOp a.eval o).run P w = .ok (.value (.slice (some ⟨w.heap.size, 0, none⟩) 1 1)) (w.alloc (.cells #[c.hd (.top d)] e)) := by
    unfold execOp
    simp only [ho, Sem.run_bind, hrun, Result.andThen_ok, Sem.run_pure]
  have hb : Below w.heap.size w (w.alloc (.cells #[c.hd (.top d)] e)) := (Below.refl _ _).alloc (Nat.le_refl _) _
  have hnew : (w.alloc (.cells #[c.hd (.top d)] e)).heap[w.heap.size]? = some (.cells #[c.hd (.top d)] e (0, 0)) := heap_alloc_new w _
  generalize hw' : w.alloc (.cells #[c.hd (.top d)] e) = w' at hexec hb hnew
  have hbn : w.heap.size < w'.heap.size := by rw [← hw']; simp
  let c' : Ctx := ⟨c.S, fun k => if k = .top T then w.heap.size else if k = .sub T 0 0 then c.τ (.top d) else c.τ k, fun k => if k = .top T then .slice (some ⟨w.heap.size, 0, none⟩) 1 1 else if k = .sub T 0 0 then c.hd (.top d) else c.hd k,
    fun k => if k = .top T then e else if k = .sub T 0 0 then c.ty (.top d) else c.ty k, fun k => if k = .top T then True else if k = .sub T 0 0 then c.D (.top d) else k.tag ≠ d ∧ k.tag ≠ T ∧ c.D k⟩
  have ctop : c'.τ (.top T) = w.heap.size ∧ c'.hd (.top T) = .slice (some ⟨w.heap.size, 0, none⟩) 1 1 ∧ c'.ty (.top T) = e ∧ c'.D (.top T) := by simp [c']
  have csub : c'.τ (.sub T 0 0) = c.τ (.top d) ∧ c'.hd (.sub T 0 0) = c.hd (.top d) ∧ c'.ty (.sub T 0 0) = c.ty (.top d) ∧ (c'.D (.sub T 0 0) ↔ c.D (.top d)) := by simp [c']
  have hag : ∀ k, k.tag ≠ T → Agree c c' k := fun k hk => by
    have q1 : k ≠ .top T := by rintro rfl; exact hk rfl
    have q2 : k ≠ .sub T 0 0 := by rintro rfl; exact hk rfl
    simp [Agree, c', q1, q2]
  have hDo : ∀ k, k ≠ .top T → k ≠ .sub T 0 0 → (c'.D k ↔ k.tag ≠ d ∧ k.tag ≠ T ∧ c.D k) := fun k q1 q2 => by simp [c', q1, q2]
  -- what a key in use means
  have old : ∀ k, c'.D k → k = .top T ∨ ∃ k0, c.D k0 ∧ c'.τ k = c.τ k0 ∧ ((k = .sub T 0 0 ∧ k0 = .top d) ∨ (k = k0 ∧ k.tag ≠ d)) := fun k hk => by
    by_cases q1 : k = .top T
    · exact .inl q1
    · by_cases q2 : k = .sub T 0 0
      · subst q2; exact .inr ⟨.top d, csub.2.2.2.1 hk, csub.1, .inl ⟨rfl, rfl⟩⟩
      · have := (hDo k q1 q2).1 hk
        exact .inr ⟨k, this.2.2, (hag k this.2.1).1, .inr ⟨rfl, this.1⟩⟩
  have hok : c'.Ok E.M w' := by
    refine ⟨fun b hb' => Nat.lt_of_lt_of_le (h.ok.hS b hb') hb.size, fun k hk => ?_, fun k k' hk hk' he => ?_⟩
    · rcases old k hk with rfl | ⟨k0, q1, q2, _⟩
      · rw [ctop.1]; exact ⟨h.below.mine (Nat.le_refl _), hbn, fun hS => by have := h.ok.hS _ hS; omega⟩
      · rw [q2]; exact ⟨(h.ok.hD _ q1).1, Nat.lt_of_lt_of_le (h.ok.hD _ q1).2.1 hb.size, (h.ok.hD _ q1).2.2⟩
    · rcases old k hk with rfl | ⟨k0, q1, q2, q3⟩ <;> rcases old k' hk' with rfl | ⟨k1, p1, p2, p3⟩
      · rfl
      · rw [ctop.1, p2] at he; have := (h.ok.hD _ p1).2.1; omega
      · rw [ctop.1, q2] at he; have := (h.ok.hD _ q1).2.1; omega
      · rw [q2, p2] at he
        have e0 := h.ok.inj _ _ q1 p1 he
        rcases q3 with ⟨r1, r2⟩ | ⟨r1, r2⟩ <;> rcases p3 with ⟨s1, s2⟩ | ⟨s1, s2⟩
        · rw [r1, s1]
        · exact absurd (by rw [s1, ← e0, r2]; rfl) s2
        · exact absurd (by rw [r1, e0, s2]; rfl) r2
        · rw [r1, s1, e0]
  have hSm : Same c.S w w' := fun b hS => hb.block b (h.ok.hS b hS)
  have hrep : HRep P w' c' T (.row e [(0, e')] [[.sl es']]) := by
    refine ⟨[c.hd (.top d)], ctop.2.2.1, by omega, by simp [h1], ?_, fun b hb' => ?_, fun i j pv hg => ?_, fun i j pv hg => ?_⟩
    · rw [ctop.2.1]
      refine ⟨by simp [h1], .inr ⟨w.heap.size, 1, #[c.hd (.top d)], rfl, Nat.zero_le _, hnew, Nat.le_refl _, by unfold maxLen; omega, by simp [h1], by simp [h1]⟩⟩
    · rw [ctop.2.1] at hb'
      simp [Value.ownBlock] at hb'; subst hb'
      exact ⟨ctop.2.2.2, ctop.1⟩
    all_goals
      have hij : i = 0 ∧ j = 0 := by
        have := getE_lt (k := 1) (by simp) hg
        simp at this; omega
      obtain ⟨rfl, rfl⟩ := hij
      simp [getE] at hg
      subst hg
    · simpa [h1] using hone
    · simp only [Nat.zero_mul, Nat.add_zero, List.getD_cons_zero]
      show CellRep P w' c' T [(0, e')] 0 0 (.sl es') (c.hd (.top d))
      unfold CellRep
      simp only [Jat, Nat.beq_refl, if_true]
      refine ⟨csub.2.1.symm, es', xsd, rfl, ?_⟩
      have k1 : RowRep P w' c (.top d) e' es' (fun _ _ pv v => RF w' c.S pv v) xsd := RowRep.keep (c := c) (c' := c) (Agree.refl c _) (fun q => ⟨hb.block _ (h.ok.hD _ q).2.1, q⟩) (fun _ _ _ _ q => RF.same hSm (fun _ h => h) q) rd
      exact RowRep.retag (c := c) (c' := c') csub.1 csub.2.1 csub.2.2.1 csub.2.2.2.2 (fun _ _ _ _ _ q => q) k1
  have hrv : RV P w' c' (.row (.top T) e) (.slice (some ⟨w.heap.size, 0, none⟩) 1 1) := by
    obtain ⟨xs', r'⟩ := hrep
    have := RV.row (P := P) (w := w') (c := c') (.top T) e r'.ty r'.hd_one
    rwa [ctop.2.1] at this
  refine does_mut hd (.inl hexec) (c' := c') ?_ hrv
  have notp : ∀ k, takeK d T k = false → k.tag ≠ d ∧ k.tag ≠ T := fun k hk => by
    simp only [takeK, Bool.or_eq_false_iff] at hk
    exact ⟨ofTag_ff.1 hk.1, ofTag_ff.1 hk.2⟩
  have isp : ∀ k, takeK d T k = true → k.tag = d ∨ k.tag = T := fun k hk => by
    simp only [takeK, Bool.or_eq_true] at hk
    exact hk.imp ofTag_iff.1 ofTag_iff.1
  refine h.step (c' := c') (takeK d T) (fun q => q = T ∨ q = d) (h.below.below hb) hok hSm (fun _ h => h) h.sup (fun k hk hp => ?_) (fun k hk => hag k (notp k hk).2) (fun k hDk hx => ⟨hb.block _ (h.ok.hD k hDk).2.1, (hDo k (by rintro rfl; exact hx (.inl rfl)) (by rintro rfl; exact hx (.inl rfl))).2 ⟨fun q => hx (.inr q), fun q => hx (.inl q), hDk⟩⟩)
    (fun k hk => (isp k hk).symm) rfl (fun g' o' hx hg' => ?_) (fun g' o' hx hg' => ?_)
  · rcases isp k hp with q | q <;> omega
  · simp only [Res.base, List.foldl_cons, List.foldl_nil, hget_put] at hg'
    rwa [if_neg (fun q => hx (.inl q))] at hg'
  · simp only [Res.base, List.foldl_cons, List.foldl_nil, hget_put] at hg'
    split at hg'
    · rename_i q
      injection hg' with hg'
      subst hg' q
      exact hrep
    · rename_i q
      rcases hx with hx | hx
      · exact absurd hx q
      · subst hx
        rw [hget_kill] at hg'
        have : takeK g' T (.top g') = true := by simp [takeK, ofTag, Key.tag]
        rw [if_pos this] at hg'
        cases hg'
end
end Go.VI

/- A range over a map: its operations, and loops whose rounds are known by a relation alone. -/
set_option linter.unusedVariables false
set_option linter.unusedSimpArgs false
set_option linter.unusedSectionVars false
namespace Go.VI
open Go.RowKit

section
variable {P : Program} {E : Ent} {S0 : Nat → Prop} {N : Nat} {σ : St} {a : Act} {w : World} {c : Ctx}
theorem range_ok {o : Oper} {t : TypeId} {x : Operand} {m : List (Int × Int)} (ho : o.op = .range t x) (ht : tMap P t = true) (hx : pev σ x = .fmap m) (h : Inv P E S0 N σ a w c) (hd : ∀ k, o.dst = some k → k < N) :
    Does P E S0 N o a w (Res.put σ o.dst (.new (o.dst.getD 0) (.it m none) (.ptr (o.dst.getD 0) 0))) := by
  obtain ⟨kt, e, hu, hk, hz⟩ := tMap_some ht
  have rx := h.ev x
  rw [hx] at rx
  obtain ⟨b, hX, hS, hm⟩ : ∃ b, a.eval x = .map (some b) ∧ c.S b ∧ MapRep w b m := by
    generalize a.eval x = X at rx
    cases rx with
    | free _ _ hf => cases hf with
      | fmap _ b hb hm => exact ⟨b, rfl, hb, hm⟩
  obtain ⟨es, cl, h1, h2, h3, h4⟩ := hm
  have hb : Below w.heap.size w (w.alloc (.mapIter (some b) cl #[] cl)) := (Below.refl _ _).alloc (Nat.le_refl _) _
  have hexec : (execOp a.eval o).run P w = .ok (.value (.pointer (some ⟨w.heap.size, 0, none⟩))) (w.alloc (.mapIter (some b) cl #[] cl)) := by
    unfold execOp
    simp only [ho, hX, run_range_map w t kt e b es cl hu h1, Sem.run_bind, Sem.run_pure, Result.andThen_ok]
  let c' := c.lay (o.dst.getD 0) w.heap.size undef 0 True
  have hok : c'.Ok E.M (w.alloc (.mapIter (some b) cl #[] cl)) := lay_ok h.ok hb.size (fun _ => ⟨h.below.mine (Nat.le_refl _), by simp, fun hS => by have := h.ok.hS _ hS; omega⟩) fun _ k' _ hg' e => by have := (h.ok.hD k' hg').2.1; omega
  have e1 : c'.τ (.top (o.dst.getD 0)) = w.heap.size := lay_top.1
  refine does_new (dst_small h hd) h hd hexec hb hok (fun _ => Iff.rfl) (fun k hk => ⟨lay_agree hk, (lay_D hk).2⟩) ⟨lay_top.2.2.2.2 trivial, ⟨b, es, cl, cl, #[], cl, hS, (hb.block b (h.ok.hS b hS)).trans h1, h3, h4, Nat.le_refl _, Nat.le_refl _, by rw [e1]; exact heap_alloc_new w _, by rw [show (es.toList.filter fun e => !(#[] : Array Nat).contains e.born) = es.toList from List.filter_eq_self.2 fun x _ => by simp]; exact h2, fun k v hq => by cases hq⟩⟩ ?_
  have := RV.ptr (P := P) (w := w.alloc (.mapIter (some b) cl #[] cl)) (c := c') (o.dst.getD 0) 0
  rwa [e1] at this
theorem filter_erase {L : List MapEntry} (hn : (L.map (·.born)).Nodup) : ∀ {i : Nat} {e : MapEntry}, L[i]? = some e → L.filter (fun x => !(x.born == e.born)) = L.eraseIdx i := by
  induction L with
  | nil => intro i e h; simp at h
  | cons x L ih =>
    intro i e h
    simp only [List.map_cons, List.nodup_cons] at hn
    cases i with
    | zero =>
      simp at h; subst h
      have : L.filter (fun y => !(y.born == x.born)) = L := List.filter_eq_self.2 fun y hy => by
        have : y.born ≠ x.born := fun q => hn.1 (by rw [← q]; exact List.mem_map.2 ⟨y, hy, rfl⟩)
        simp [this]
      simp [this]
    | succ i =>
      simp only [List.getElem?_cons_succ] at h
      have hne : x.born ≠ e.born := fun q => hn.1 (by rw [q]; exact List.mem_map.2 ⟨e, List.mem_of_getElem? h, rfl⟩)
      rw [List.filter_cons, if_pos (by simp [hne]), ih hn.2 h]
      rfl
/-- what 'next' may do -/
theorem next_ok {o : Oper} {x : Operand} {g : Nat} {left : List (Int × Int)} {cur : Option (Int × Int)} (ho : o.op = .next x false) (hx : pev σ x = .ptr g 0) (hg : σ.hget g = some (.it left cur)) (h : Inv P E S0 N σ a w c) (hd : ∀ k, o.dst = some k → k < N)
    (next : Act → World → Prop) (Q : Exit → Act → World → Prop) (h0 : left = [] → ∀ a' w' c', Inv P E S0 N (setO σ o.dst (.tup [.lit (.bool false)])) a' w' c' → next a' w')
    (h1 : ∀ i kv, left[i]? = some kv → ∀ a' w' c', Inv P E S0 N (setO (σ.put g (.it (left.eraseIdx i) (some kv))) o.dst (.tup [.lit (.bool true), .lit (.int .i64 kv.1), .lit (.int .i64 kv.2)])) a' w' c' → next a' w') : o.wp P a w next Q := by
  have rx := h.ev x
  rw [hx] at rx
  have hX : a.eval x = .pointer (some ⟨c.τ (.top g), 0, none⟩) := by
    generalize a.eval x = X at rx
    cases rx with
    | free _ _ hf => cases hf
    | ptr => rfl
  obtain ⟨hD, b, es, cl, since, seen, c0, hS, hb, hnd, hold, hsc, hscl, hr, hleft, hcur⟩ := h.objs g _ hg
  rcases run_next_at (P := P) w o.type (c.τ (.top g)) b since c0 seen es cl hr hb hold hsc with ⟨q0, hrun⟩ | ⟨e, he, w1, hal, hrun⟩
  · have hl : left = [] := by
      have : (leftOf es seen).toList = [] := by rw [← List.length_eq_zero_iff, Array.length_toList]; exact q0
      unfold leftOf at this
      rw [Array.toList_filter] at this
      rw [this] at hleft
      simpa using hleft.symm
    have hexec : (execOp a.eval o).run P w = .ok (.value (.tuple #[.bool false])) w := by
      unfold execOp
      simp only [ho, hX, hrun, Sem.run_bind, Sem.run_pure, Result.andThen_ok]
    have := does_value h hd hexec (pv := .tup [.lit (.bool false)]) (.free _ _ (.tup _ _ rfl fun i pv hgi => by
      match i, hgi with
      | 0, hgi => simp at hgi; subst hgi; exact .lit _))
    refine this next Q fun a' w' c' hi => h0 hl a' w' c' ?_
    rw [put_eq] at hi; exact hi
  · have hem : e ∈ es.toList ∧ seen.contains e.born = false := by
      unfold leftOf at he
      rw [Array.toList_filter, List.mem_filter] at he
      exact ⟨he.1, by simpa using he.2⟩
    obtain ⟨i, hi⟩ : ∃ i, (es.toList.filter fun e => !seen.contains e.born)[i]? = some e := by
      unfold leftOf at he
      rw [Array.toList_filter] at he
      exact List.mem_iff_getElem?.1 he
    have hkv : ∃ kv, left[i]? = some kv ∧ e.key = .int .i64 kv.1 ∧ e.val = .int .i64 kv.2 := by
      have := congrArg (fun l => l[i]?) hleft
      simp only [List.getElem?_map, hi, Option.map_some] at this
      cases hq : left[i]? with
      | none => rw [hq] at this; cases this
      | some kv =>
        rw [hq] at this
        simp only [Option.map_some, Option.some.injEq, Prod.mk.injEq] at this
        exact ⟨kv, rfl, this.1, this.2⟩
    obtain ⟨kv, hlk, hk1, hk2⟩ := hkv
    have hexec : (execOp a.eval o).run P w = .ok (.value (.tuple #[.bool true, e.key, e.val])) (ChangeMaps.setBlock w1 (c.τ (.top g)) (.mapIter (some b) since (seen.push e.born) cl)) := by
      unfold execOp
      simp only [ho, hX, hrun, Sem.run_bind, Sem.run_pure, Result.andThen_ok]
    have hw1 : w1.heap = w.heap ∧ w1.os = w.os ∧ w1.tape = w.tape ∧ w1.output = w.output := by rcases hal with rfl | rfl <;> exact ⟨rfl, rfl, rfl, rfl⟩
    generalize hw' : ChangeMaps.setBlock w1 (c.τ (.top g)) (.mapIter (some b) since (seen.push e.born) cl) = w' at hexec
    have hlt : c.τ (.top g) < w.heap.size := (h.ok.hD _ hD).2.1
    have hwh : w'.heap = w.heap.setIfInBounds (c.τ (.top g)) (.mapIter (some b) since (seen.push e.born) cl) := by rw [← hw']; simp [ChangeMaps.setBlock, hw1.1]
    have hsz : w'.heap.size = w.heap.size := by rw [hwh]; simp
    have hoth : ∀ b', b' ≠ c.τ (.top g) → w'.heap[b']? = w.heap[b']? := fun b' hne => by rw [hwh]; simp [Array.getElem?_setIfInBounds, Ne.symm hne]
    have hat : w'.heap[c.τ (.top g)]? = some (.mapIter (some b) since (seen.push e.born) cl) := by rw [hwh]; simp [hlt]
    have hbne : b ≠ c.τ (.top g) := fun q => (h.ok.hD _ hD).2.2 (q ▸ hS)
    have hobs : HRep P w' c g (.it (left.eraseIdx i) (some kv)) := by
      refine ⟨hD, b, es, cl, since, seen.push e.born, cl, hS, (hoth b hbne).trans hb, hnd, hold, hscl, hscl, hat, ?_, fun k v hq => ?_⟩
      · have hf : (es.toList.filter fun x => !(seen.push e.born).contains x.born) = (es.toList.filter fun x => !seen.contains x.born).filter fun x => !(x.born == e.born) := by
          rw [List.filter_filter]
          apply List.filter_congr
          intro x _
          have : (seen.push e.born).contains x.born = (seen.contains x.born || (x.born == e.born)) := by
            rw [Bool.eq_iff_iff]
            simp
          rw [this]
          cases seen.contains x.born <;> cases (x.born == e.born) <;> rfl
        have hnd' : ((es.toList.filter fun x => !seen.contains x.born).map (·.born)).Nodup := hnd.sublist (List.Sublist.map _ List.filter_sublist)
        rw [hf, filter_erase hnd' hi]
        have er : ∀ (l : List MapEntry) (l2 : List (Int × Int)) (i : Nat), l.map (fun e => (e.key, e.val)) = l2.map (fun p => (Value.int .i64 p.1, Value.int .i64 p.2)) → (l.eraseIdx i).map (fun e => (e.key, e.val)) = (l2.eraseIdx i).map (fun p => (Value.int .i64 p.1, Value.int .i64 p.2)) := by
          intro l
          induction l with
          | nil => intro l2 i h; cases l2 with
            | nil => simp
            | cons => simp at h
          | cons x l ih => intro l2 i h; cases l2 with
            | nil => simp at h
            | cons y l2 =>
              simp only [List.map_cons, List.cons.injEq] at h
              cases i with
              | zero => simpa using h.2
              | succ i => simp only [List.eraseIdx_cons_succ, List.map_cons, h.1, ih l2 i h.2]
        exact er _ _ _ hleft
      · injection hq with hq
        subst hq
        exact ⟨e, seen, hem.1, rfl, rfl, hk1, hk2⟩
    have hinv := h.turn (k0 := .top g) hD hsz hoth (by rw [← hw']; exact hw1.2.1) (by rw [← hw']; exact hw1.2.2.1) (by rw [← hw']; exact hw1.2.2.2) hobs
    have hrv : RV P w' c (.tup [.lit (.bool true), .lit (.int .i64 kv.1), .lit (.int .i64 kv.2)]) (.tuple #[.bool true, e.key, e.val]) := .free _ _ (.tup _ _ rfl fun i pv hgi => by
      match i, hgi with
      | 0, hgi => simp at hgi; subst hgi; exact .lit _
      | 1, hgi => simp at hgi; subst hgi; rw [← hk1]; exact .lit _
      | 2, hgi => simp at hgi; subst hgi; rw [← hk2]; exact .lit _)
    have := does_mut (σ := σ) (r := ⟨[], [(g, .it (left.eraseIdx i) (some kv))], .tup [.lit (.bool true), .lit (.int .i64 kv.1), .lit (.int .i64 kv.2)]⟩) (c' := c) hd (.inl hexec) hinv hrv
    refine this next Q fun a' w' c' hi' => h1 i kv hlk a' w' c' ?_
    rw [put_eq] at hi'; exact hi'
theorem entry_ok {o : Oper} {x : Operand} {g : Nat} {left : List (Int × Int)} {k v : Int} (ho : o.op = .entry x) (hx : pev σ x = .ptr g 0) (hg : σ.hget g = some (.it left (some (k, v)))) (h : Inv P E S0 N σ a w c) (hd : ∀ k, o.dst = some k → k < N) :
    Does P E S0 N o a w (Res.put σ o.dst (.val (.tup [.lit (.int .i64 k), .lit (.int .i64 v)]))) := by
  have rx := h.ev x
  rw [hx] at rx
  have hX : a.eval x = .pointer (some ⟨c.τ (.top g), 0, none⟩) := by
    generalize a.eval x = X at rx
    cases rx with
    | free _ _ hf => cases hf
    | ptr => rfl
  obtain ⟨hD, b, es, cl, since, seen, c0, hS, hb, hnd, hold, hsc, hscl, hr, hleft, hcur⟩ := h.objs g _ hg
  obtain ⟨e, seen', q1, rfl, rfl, q2, q3⟩ := hcur k v rfl
  have hrun := run_entry_at (P := P) w (c.τ (.top g)) b since seen' es c0 e hr hb q1 hnd
  refine does_value h hd (v := .tuple #[e.key, e.val]) ?_ (.free _ _ (.tup _ _ rfl fun i pv hgi => by
      match i, hgi with
      | 0, hgi => simp at hgi; subst hgi; rw [← q2]; exact .lit _
      | 1, hgi => simp at hgi; subst hgi; rw [← q3]; exact .lit _))
  unfold execOp
  simp only [ho, hX, hrun, Sem.run_bind, Sem.run_pure, Result.andThen_ok]
end

section
variable {G : Prg} {ops : Array Oper} {k : Nat} {σ : St} {K : St → Prop}
/-- An operation whose deed is known. -/
theorem evs_does {o : Oper} (ho : opAt ops k = some o) (hg : pguard ops σ o = some true) {σ' : St} (h : ∀ {E : Ent} {S0 : Nat → Prop} {N : Nat} {a : Act} {w : World} {c : Ctx}, Inv G.P E S0 N σ a w c → (∀ k, o.dst = some k → k < N) → Does G.P E S0 N o a w σ') (next : EVS G ops (k + 1) σ' K) : EVS G ops k σ K :=
  evs_one ho hg (fun _ E S0 N a w c hi hd nx Q hn => h hi hd nx Q fun a' w' c' hi' => hn _ _ _ _ next hi') fun e => nomatch e
def rangeAt (G : Prg) (ops : Array Oper) (k : Nat) (σ : St) : Option (PV × Nat) := match onAt ops k σ with
  | some o => (match o.op with
    | .range t x => if tMap G.P t = true then some (pev σ x, o.dst.getD 0) else none
    | _ => none)
  | none => none
theorem evs_range {m : List (Int × Int)} {d : Nat} (h : rangeAt G ops k σ = some (.fmap m, d)) (next : EVS G ops (k + 1) (Res.put σ (dstAt ops k) (.new d (.it m none) (.ptr d 0))) K) : EVS G ops k σ K := by
  unfold rangeAt at h
  split at h
  case h_2 => cases h
  rename_i o ho
  split at h
  case h_2 => cases h
  rename_i t x hop
  split at h
  case isFalse => cases h
  rename_i ht
  simp only [Option.some.injEq, Prod.mk.injEq] at h
  obtain ⟨hx, rfl⟩ := h
  obtain ⟨h1, h2⟩ := onAt_spec ho
  rw [dstAt_eq h1] at next
  exact evs_does h1 h2 (fun hi hd => range_ok hop ht hx hi hd) next
def nextAt (ops : Array Oper) (k : Nat) (σ : St) : Option PV := match onAt ops k σ with
  | some o => (match o.op with
    | .next x false => some (pev σ x)
    | _ => none)
  | none => none
theorem evs_next {g : Nat} {left : List (Int × Int)} {cur : Option (Int × Int)} (h : nextAt ops k σ = some (.ptr g 0)) (hg : σ.hget g = some (.it left cur)) (h0 : left = [] → EVS G ops (k + 1) (setO σ (dstAt ops k) (.tup [vB false])) K)
    (h1 : ∀ i kv, left[i]? = some kv → EVS G ops (k + 1) (setO (σ.put g (.it (left.eraseIdx i) (some kv))) (dstAt ops k) (.tup [vB true, vI kv.1, vI kv.2])) K) : EVS G ops k σ K := by
  unfold nextAt at h
  split at h
  case h_2 => cases h
  rename_i o ho
  split at h
  case h_2 => cases h
  rename_i x hop
  injection h with hx
  obtain ⟨q1, q2⟩ := onAt_spec ho
  rw [dstAt_eq q1] at h0 h1
  exact evs_one q1 q2 (fun _ E S0 N a w c hi hd nx Q hn => next_ok hop hx hg hi hd nx Q (fun hl a' w' c' hi' => hn _ _ _ _ (h0 hl) hi') fun i kv hkv a' w' c' hi' => hn _ _ _ _ (h1 i kv hkv) hi') fun e => nomatch e
def entryAt (ops : Array Oper) (k : Nat) (σ : St) : Option PV := match onAt ops k σ with
  | some o => (match o.op with
    | .entry x => some (pev σ x)
    | _ => none)
  | none => none
theorem evs_entry {g : Nat} {left : List (Int × Int)} {u v : Int} (h : entryAt ops k σ = some (.ptr g 0)) (hg : σ.hget g = some (.it left (some (u, v)))) (next : EVS G ops (k + 1) (setO σ (dstAt ops k) (.tup [vI u, vI v])) K) : EVS G ops k σ K := by
  unfold entryAt at h
  split at h
  case h_2 => cases h
  rename_i o ho
  split at h
  case h_2 => cases h
  rename_i x hop
  injection h with hx
  obtain ⟨h1, h2⟩ := onAt_spec ho
  rw [dstAt_eq h1] at next
  refine evs_does h1 h2 (fun hi hd => ?_) next
  have := entry_ok hop hx hg hi hd
  rwa [put_eq] at this
end
section
variable {G : Prg} {cd : Code} {σ : St} {K : PX → St → Prop}
/-- A loop whose rounds are known by a relation: each round leads nearer to the end. -/
theorem sem_loop_rel {S : Type} (emb : S → St) (I : S → Prop) (μ : S → Nat) (s : S) (hk : knd cd = 6) (h0 : SubR G.P (emb s) σ) (hs : I s)
    (hbody : ∀ s, I s → SEM G (cL cd) (emb s) (fun px τ => (px = .normal ∧ ∃ s', I s' ∧ μ s' < μ s ∧ SubR G.P (emb s') τ) ∨ (isN px = false ∧ K px τ))) : SEM G cd σ K := by
  refine sem_subR h0 ?_
  cases cd <;> simp [knd] at hk
  · rename_i b; cases b <;> simp [knd] at hk
  rename_i x
  intro E S0 N a w c hd hi
  have key : ∀ n s, μ s < n → I s → ∀ a w c, Inv G.P E S0 N (emb s) a w c → Code.rounds G.P x (fun e a' w' => ∃ px σ' c', PX.like px e ∧ K px σ' ∧ Inv G.P E S0 N σ' a' w' c') n a w := by
    intro n
    induction n with
    | zero => intro s h; exact absurd h (Nat.not_lt_zero _)
    | succ n ih =>
      intro s hlt hI a w c hi
      rw [rounds_succ]
      refine wp_mono (hbody s hI E S0 N a w c (by rw [dstOk] at hd; exact hd) hi) fun e a' w' he => ?_
      obtain ⟨px, σ', c', hl, hk, hi'⟩ := he
      rcases hk with ⟨rfl, s', h1, h2, h3⟩ | ⟨h1, h2⟩
      · cases e <;> simp only [PX.like] at hl
        obtain ⟨c2, hi2⟩ := h3 hi'
        exact ih s' (by omega) h1 _ _ _ hi2
      · cases px <;> cases e <;> simp only [PX.like] at hl
        · cases h1
        · subst hl; exact ⟨.exit _, σ', c', rfl, h2, hi'⟩
        · exact ⟨.ret, σ', c', trivial, h2, hi'⟩
  exact wp_loop_rounds (μ s + 1) (key _ s (Nat.lt_succ_self _) hs a w c hi)
end
end Go.VI

/- The least entry of a map, whatever the order in which it is gone through. -/
set_option linter.unusedVariables false
set_option linter.unusedSimpArgs false
set_option linter.unusedSectionVars false
namespace Go.VI
def bestStep (m : List (Int × Int)) (out : Int) (kv : Int × Int) : Int :=
  if out < 0 ∨ kv.2 < (mfind m out).getD 0 ∨ (kv.2 = (mfind m out).getD 0 ∧ kv.1 < out) then kv.1 else out
def bestOf (m : List (Int × Int)) : Int := m.foldl (bestStep m) (-1)
/-- no key twice, none below zero -/
def BestOk (m : List (Int × Int)) : Prop := (m.map (·.1)).Nodup ∧ ∀ p ∈ m, 0 ≤ p.1
open Classical in
noncomputable def bestM (m : List (Int × Int)) : Option Int := if BestOk m then some (bestOf m) else none
theorem bestM_some {m : List (Int × Int)} {r : Int} (h : bestM m = some r) : BestOk m ∧ bestOf m = r := by
  unfold bestM at h
  split at h
  · injection h with h; exact ⟨by assumption, h⟩
  · cases h
theorem bestM_ok {m : List (Int × Int)} (h : BestOk m) : bestM m = some (bestOf m) := by unfold bestM; rw [if_pos h]
/-- left: what is still to come; out: the least of what has come -/
def BestI (m left : List (Int × Int)) (out : Int) : Prop :=
  BestOk m ∧ left.Sublist m ∧ ((left = m ∧ out = -1) ∨ ∃ v, (out, v) ∈ m ∧ (out, v) ∉ left ∧ ∀ p ∈ m, p ∉ left → v < p.2 ∨ (v = p.2 ∧ out ≤ p.1))
theorem best_start {m : List (Int × Int)} (h : BestOk m) : BestI m m (-1) := ⟨h, List.Sublist.refl _, .inl ⟨rfl, rfl⟩⟩
theorem nodup_of_keys {m : List (Int × Int)} (h : (m.map (·.1)).Nodup) : m.Nodup := by
  induction m with
  | nil => exact List.nodup_nil
  | cons p m ih =>
    simp only [List.map_cons, List.nodup_cons] at h ⊢
    exact ⟨fun hp => h.1 (List.mem_map.2 ⟨p, hp, rfl⟩), ih h.2⟩
theorem mfind_mem {m : List (Int × Int)} (h : (m.map (·.1)).Nodup) {k v : Int} (hm : (k, v) ∈ m) : mfind m k = some v := by
  induction m with
  | nil => cases hm
  | cons p m ih =>
    obtain ⟨a, b⟩ := p
    simp only [List.map_cons, List.nodup_cons] at h
    simp only [mfind]
    rcases List.mem_cons.1 hm with e | e
    · injection e with e1 e2; subst e1 e2; simp
    · have : k ≠ a := by rintro rfl; exact h.1 (List.mem_map.2 ⟨(k, v), e, rfl⟩)
      rw [if_neg (by simpa using this)]
      exact ih h.2 e
theorem not_mem_erase {l : List (Int × Int)} (hn : l.Nodup) {i : Nat} {kv p : Int × Int} (h : l[i]? = some kv) : p ∉ l.eraseIdx i ↔ p ∉ l ∨ p = kv := by
  induction l generalizing i with
  | nil => simp at h
  | cons x l ih =>
    simp only [List.nodup_cons] at hn
    cases i with
    | zero =>
      simp at h; subst h
      simp only [List.eraseIdx_zero, List.tail_cons, List.mem_cons, not_or]
      constructor
      · intro hp
        by_cases e : p = x
        · exact .inr e
        · exact .inl ⟨e, hp⟩
      · rintro (⟨_, hp⟩ | rfl)
        · exact hp
        · exact hn.1
    | succ i =>
      simp only [List.getElem?_cons_succ] at h
      simp only [List.eraseIdx_cons_succ, List.mem_cons, not_or]
      have := ih hn.2 h
      constructor
      · rintro ⟨h1, h2⟩
        rcases this.1 h2 with q | q
        · exact .inl ⟨h1, q⟩
        · exact .inr q
      · rintro (⟨h1, h2⟩ | rfl)
        · exact ⟨h1, this.2 (.inl h2)⟩
        · refine ⟨?_, this.2 (.inr rfl)⟩
          rintro rfl
          exact hn.1 (List.mem_of_getElem? h)
theorem best_step {m left : List (Int × Int)} {out : Int} {i : Nat} {kv : Int × Int} {o2 : Int} (h : BestI m left out) (hkv : left[i]? = some kv) (ho : bestStep m out kv = o2) : BestI m (left.eraseIdx i) o2 := by
  obtain ⟨hok, hsub, hh⟩ := h
  have hn := (nodup_of_keys hok.1).sublist hsub
  have hmem : kv ∈ m := hsub.subset (List.mem_of_getElem? hkv)
  refine ⟨hok, (List.eraseIdx_sublist _ _).trans hsub, .inr ?_⟩
  subst ho
  unfold bestStep
  rcases hh with ⟨rfl, rfl⟩ | ⟨v, h1, h2, h3⟩
  · rw [if_pos (by omega)]
    refine ⟨kv.2, hmem, (not_mem_erase hn hkv).2 (.inr rfl), fun p hp hpl => ?_⟩
    rcases (not_mem_erase hn hkv).1 hpl with q | rfl
    · exact absurd hp q
    · exact .inr ⟨rfl, Int.le_refl _⟩
  · have h0 := hok.2 _ h1
    rw [mfind_mem hok.1 h1, Option.getD_some]
    simp only at h0
    split
    · rename_i hc
      refine ⟨kv.2, hmem, (not_mem_erase hn hkv).2 (.inr rfl), fun p hp hpl => ?_⟩
      rcases (not_mem_erase hn hkv).1 hpl with q | rfl
      · rcases h3 p hp q with q | q <;> omega
      · exact .inr ⟨rfl, Int.le_refl _⟩
    · rename_i hc
      refine ⟨v, h1, (not_mem_erase hn hkv).2 (.inl h2), fun p hp hpl => ?_⟩
      rcases (not_mem_erase hn hkv).1 hpl with q | rfl
      · exact h3 p hp q
      · omega
theorem best_less {left : List (Int × Int)} {i : Nat} {kv : Int × Int} (h : left[i]? = some kv) : (left.eraseIdx i).length < left.length := by
  have := (List.getElem?_eq_some_iff.1 h).1
  rw [List.length_eraseIdx, if_pos this]; omega
theorem best_fold {m : List (Int × Int)} : ∀ (left : List (Int × Int)) (out : Int), BestI m left out → BestI m [] (left.foldl (bestStep m) out)
  | [], _, h => h
  | kv :: left, out, h => best_fold left _ (by simpa using best_step (i := 0) h rfl rfl)
theorem best_of {m : List (Int × Int)} (h : BestOk m) : BestI m [] (bestOf m) := best_fold m (-1) (best_start h)
theorem best_one {m : List (Int × Int)} {a b : Int} (h1 : BestI m [] a) (h2 : BestI m [] b) : a = b := by
  obtain ⟨hok, _, h1⟩ := h1
  obtain ⟨_, _, h2⟩ := h2
  rcases h1 with ⟨rfl, rfl⟩ | ⟨v, a1, _, a3⟩ <;> rcases h2 with ⟨e, rfl⟩ | ⟨u, b1, _, b3⟩
  · rfl
  · cases b1
  · rw [← e] at a1; cases a1
  · have p := a3 _ b1 (by simp)
    have q := b3 _ a1 (by simp)
    simp only at p q
    omega
theorem best_end {m left : List (Int × Int)} {out r : Int} (hok : BestOk m) (h : BestI m left out) (hl : left = []) (hr : bestOf m = r) : out = r := by
  subst hl hr
  exact best_one h (best_of hok)
/-- what it is: of a least entry the key -/
theorem bestOf_spec {m : List (Int × Int)} (h : BestOk m) (hne : m ≠ []) : ∃ v, (bestOf m, v) ∈ m ∧ ∀ p ∈ m, v < p.2 ∨ (v = p.2 ∧ bestOf m ≤ p.1) := by
  obtain ⟨_, _, hh⟩ := best_of h
  rcases hh with ⟨e, _⟩ | ⟨v, h1, _, h3⟩
  · exact absurd e.symm hne
  · exact ⟨v, h1, fun p hp => h3 p hp (by simp)⟩
end Go.VI

/- The operations on the bits of integers. -/
set_option linter.unusedVariables false
set_option linter.unusedSimpArgs false
set_option linter.unusedSectionVars false
namespace Go.VI
def kand (k : IntKind) (a b : Int) : Int := k.wrap (BitVec.ofInt k.bits a &&& BitVec.ofInt k.bits b).toNat
def kor (k : IntKind) (a b : Int) : Int := k.wrap (BitVec.ofInt k.bits a ||| BitVec.ofInt k.bits b).toNat
def kxor (k : IntKind) (a b : Int) : Int := k.wrap (BitVec.ofInt k.bits a ^^^ BitVec.ofInt k.bits b).toNat
def kandNot (k : IntKind) (a b : Int) : Int := k.wrap (BitVec.ofInt k.bits a &&& ~~~(BitVec.ofInt k.bits b)).toNat
/-- elements put in from place lo on -/
def cpy {α : Type} (es : List α) (lo : Nat) (ys : List α) : List α := es.take lo ++ ys ++ es.drop (lo + ys.length)
/-- a byte of a string -/
def sidx (s : ByteArray) (i : Int) : Option Int := if 0 ≤ i then (s[i.toNat]?).map (fun b => (b.toNat : Int)) else none
end Go.VI

/- Slices held against nil; slices written out to be one's own. -/
set_option linter.unusedVariables false
set_option linter.unusedSimpArgs false
set_option linter.unusedSectionVars false
namespace Go.VI
open Go.RowKit

section
variable {P : Program} {E : Ent} {S0 : Nat → Prop} {N : Nat} {σ : St} {a : Act} {w : World} {c : Ctx}
theorem run_isnil {t : TypeId} {A : Option Addr} {n cc : Nat} {e : TypeId} (ht : tElem P t = some e) : (binOp .eql t (.slice A n cc) (.slice none 0 0)).run P w = .ok (.bool A.isNone) w := by
  have hu := tElem_some ht
  have : (Op.equal t (.slice A n cc) (.slice none 0 0)).run P w = .ok A.isNone w := by
    unfold Op.equal
    show (Op.equalIn (9999 + 1) t _ _).run P w = _
    unfold Op.equalIn
    cases A <;> simp only [Sem.run_bind, run_underlying hu, Result.andThen_ok, Sem.run_pure] <;> rfl
  simp only [binOp, Sem.run_bind, this, Result.andThen_ok, Sem.run_pure]
theorem isnil_ok {o : Oper} {t t' : TypeId} {x : Operand} {e : TypeId} {es : List (List PV)} (ho : o.op = .binOp .eql t x (.const (.slice none 0 0)) t') (ht : tElem P t = some e) (hx : pev σ x = .sl es) (h : Inv P E S0 N σ a w c) (hd : ∀ k, o.dst = some k → k < N) :
    ∃ b : Bool, (b = true → es = []) ∧ Does P E S0 N o a w (Res.put σ o.dst (.val (.lit (.bool b)))) := by
  have rx := h.ev x
  rw [hx] at rx
  obtain ⟨A, n, cc, hX, hA⟩ : ∃ A n cc, a.eval x = .slice A n cc ∧ (A.isNone = true → es = []) := by
    generalize a.eval x = X at rx
    cases rx with
    | free _ _ hf => cases hf with
      | sl _ k A n cc vf hn hk hk0 hc ha =>
        refine ⟨A, n, cc, rfl, fun hq => ?_⟩
        rcases es with _ | ⟨y, ys⟩
        · rfl
        · obtain ⟨ad, h1, _⟩ := ha (by simp)
          rw [h1] at hq; cases hq
  refine ⟨A.isNone, hA, does_value h hd ?_ (.free _ _ (.lit _))⟩
  unfold execOp
  have hg : (eqGuard .eql t x (.const (.slice none 0 0)) (.slice A n cc) (.slice none 0 0)).run P w = .ok () w := by
    unfold eqGuard; rfl
  have hY : a.eval (.const (.slice none 0 0)) = .slice none 0 0 := rfl
  simp only [ho, hX, hY, Sem.run_bind, hg, run_isnil ht, Result.andThen_ok, Sem.run_pure]
def PV.softc : PV → PV
  | .nl => .sl []
  | v => v
theorem softc_cell {l : List PV} (h : (l.map PV.softc).all PV.still = true) : l.all PV.cell = true := by
  rw [List.all_eq_true] at h ⊢
  intro v hv
  have := h _ (List.mem_map.2 ⟨v, hv, rfl⟩)
  cases v <;> first | rfl | (simp [PV.softc, PV.still] at this; done) | exact this
theorem softc_RF {pv : PV} {v : Value} (r : RV P w c pv v) (h : (PV.softc pv).still = true) : RF w c.S (PV.softc pv) v := by
  have key : pv = .nl ∨ (PV.softc pv = pv) := by cases pv <;> first | exact .inl rfl | exact .inr rfl
  rcases key with rfl | e
  · rw [r.nl_eq]; exact RF.sl_nil w _
  · rw [e] at h ⊢; exact r.toRF (still_free h)
/-- A slice written out, nil slices in it. -/
theorem buildS_ok {o : Oper} {t e : TypeId} {len : Nat} {parts : Array (Nat × Operand)} (ho : o.op = .buildSlice t len parts) (ht : tElem P t = some e) (hidx : parts.toList.map (·.1) = List.range len) (hk : 0 < tSize P e) (hlim : len * tSize P e ≤ 16777216)
    (hrow : tRow P e = true) (hall : (parts.toList.all fun p => (pev σ p.2).cells.length == tSize P e && ((pev σ p.2).cells.map PV.softc).all PV.still) = true) (h : Inv P E S0 N σ a w c) (hd : ∀ k, o.dst = some k → k < N) :
    Does P E S0 N o a w (Res.put σ o.dst (.val (.sl (parts.toList.map fun p => (pev σ p.2).cells.map PV.softc)))) := by
  obtain ⟨i, z, hi, hz, hsz, hby, hzs, hsize⟩ := tRow_some hrow
  have hlen : parts.toList.length = len := by have := congrArg List.length hidx; simpa using this
  -- the cells
  let cells : List Value := parts.toList.flatMap fun p => (a.eval p.2).cells.toList
  have each : ∀ p ∈ parts.toList, (pev σ p.2).cells.length = tSize P e ∧ ((pev σ p.2).cells.map PV.softc).all PV.still = true := fun p hp => by
    have := List.all_eq_true.1 hall p hp
    simpa using this
  have rep : ∀ p ∈ parts.toList, (a.eval p.2).cells.size = tSize P e ∧ ∀ (j : Nat) pv, ((pev σ p.2).cells.map PV.softc)[j]? = some pv → RF w c.S pv ((a.eval p.2).cells.getD j undef) ∧ ((a.eval p.2).cells.getD j undef).oneCell' = true := fun p hp => by
    obtain ⟨q1, q2⟩ := each p hp
    obtain ⟨q3, q4⟩ := (h.ev p.2).cells (softc_cell q2)
    refine ⟨by omega, fun j pv hg => ?_⟩
    rw [List.getElem?_map] at hg
    cases hq : (pev σ p.2).cells[j]? with
    | none => rw [hq] at hg; cases hg
    | some pv0 =>
      rw [hq] at hg
      simp only [Option.map_some, Option.some.injEq] at hg
      subst hg
      have hst : (PV.softc pv0).still = true := List.all_eq_true.1 q2 _ (List.mem_map.2 ⟨pv0, List.mem_of_getElem? hq, rfl⟩)
      exact ⟨softc_RF (q4 j pv0 hq).1 hst, (q4 j pv0 hq).2⟩
  have hrun : (Instr.buildSlice t len (parts.map fun p => (p.1, a.eval p.2))).run P w = .ok (.slice (some ⟨w.heap.size, 0, none⟩) len len) (w.alloc (.cells cells.toArray e)) := run_buildSlice ht hidx hk hlim hrow fun p hp => (rep p hp).1
  have hexec : (execOp a.eval o).run P w = .ok (.value (.slice (some ⟨w.heap.size, 0, none⟩) len len)) (w.alloc (.cells cells.toArray e)) := by
    unfold execOp
    simp only [ho, Sem.run_bind, hrun, Result.andThen_ok, Sem.run_pure]
  have hb : Below w.heap.size w (w.alloc (.cells cells.toArray e)) := (Below.refl _ _).alloc (Nat.le_refl _) _
  have inv' := (h.ext hb).more (fun b => c.S b ∨ b = w.heap.size) (fun b hb => .inl hb) (fun b hb' => by rcases hb' with q | q; exact Nat.lt_of_lt_of_le (h.ok.hS b q) hb.size; simp [q]) (fun b hb' => by rcases hb' with q | q; exact h.sup b q; exact .inr (by rw [q]; exact h.below.mine (Nat.le_refl _)))
    (fun k hg hb' => by rcases hb' with q | q; exact (h.ok.hD k hg).2.2 q; have := (h.ok.hD k hg).2.1; omega)
  refine does_mut hd (.inl hexec) inv' (.free _ _ ?_)
  have hsz : ∀ p ∈ parts.toList, (a.eval p.2).cells.toList.length = tSize P e := fun p hp => by simpa using (rep p hp).1
  have hg : ∀ i j pv, getE (parts.toList.map fun p => (pev σ p.2).cells.map PV.softc) i j = some pv → ∃ p, parts.toList[i]? = some p ∧ p ∈ parts.toList ∧ ((pev σ p.2).cells.map PV.softc)[j]? = some pv ∧ j < tSize P e ∧ i < len ∧ cells[i * tSize P e + j]? = some ((a.eval p.2).cells.getD j undef) := by
    intro i j pv hg
    unfold getE at hg
    rw [List.getElem?_map] at hg
    cases hp : parts.toList[i]? with
    | none => simp [hp] at hg
    | some p =>
      simp only [hp, Option.map_some, Option.bind_some] at hg
      have hmem := List.mem_of_getElem? hp
      have hj : j < tSize P e := by
        rcases Nat.lt_or_ge j (pev σ p.2).cells.length with q | q
        · rw [(each p hmem).1] at q; exact q
        · rw [List.getElem?_eq_none (by simpa using q)] at hg; cases hg
      have hi' : i < len := by
        rcases Nat.lt_or_ge i parts.toList.length with q | q
        · omega
        · rw [List.getElem?_eq_none q] at hp; cases hp
      refine ⟨p, rfl, hmem, hg, hj, hi', ?_⟩
      rw [flat_get (tSize P e) parts.toList (fun p => (a.eval p.2).cells.toList) hsz i j hj, hp]
      simp only [Option.bind_some]
      rw [Array.getElem?_toList]
      exact getD_lt (by have := (rep p hmem).1; omega)
  refine .sl _ (tSize P e) _ _ _ (fun i j => cells.getD (i * tSize P e + j) undef) (by simpa using hlen.symm) (fun l hl => ?_) hk (Nat.le_refl _) (fun _ => ⟨_, rfl, .inr rfl⟩) (fun ad had i j pv hg' => ?_) (fun i j pv hg' => ?_) (fun i j pv hg' => ?_)
  · rw [List.mem_map] at hl
    obtain ⟨p, hp, rfl⟩ := hl
    rw [List.length_map]; exact (each p hp).1
  · injection had with had
    subst had
    obtain ⟨p, _, _, _, _, _, q⟩ := hg i j pv hg'
    rw [add_lit, cell_of_row _ _ _ _ _ _ (heap_alloc_new w _), Nat.zero_add, List.getElem?_toArray, q, List.getD_eq_getElem?_getD, q]
    rfl
  · obtain ⟨p, _, hp, q1, _, _, q⟩ := hg i j pv hg'
    rw [List.getD_eq_getElem?_getD, q]
    exact ((rep p hp).2 j pv q1).2
  · obtain ⟨p, _, hp, q1, _, _, q⟩ := hg i j pv hg'
    rw [List.getD_eq_getElem?_getD, q]
    exact (((rep p hp).2 j pv q1).1).same (fun b hS => hb.block b (h.ok.hS b hS)) fun b hb => .inl hb

/-- A slice written out, to be one's own. -/
theorem buildO_ok {o : Oper} {t e : TypeId} {len : Nat} {parts : Array (Nat × Operand)} (ho : o.op = .buildSlice t len parts) (ht : tElem P t = some e) (hidx : parts.toList.map (·.1) = List.range len) (hk : 0 < tSize P e) (hlim : len * tSize P e ≤ 16777216)
    (hrow : tRow P e = true) (hall : (parts.toList.all fun p => (pev σ p.2).cells.length == tSize P e && (pev σ p.2).cells.all PV.still) = true) (h : Inv P E S0 N σ a w c) (hd : ∀ k, o.dst = some k → k < N) :
    Does P E S0 N o a w (Res.put σ o.dst (.new (o.dst.getD 0) (.row e [] (parts.toList.map fun p => (pev σ p.2).cells)) (.row (.top (o.dst.getD 0)) e))) := by
  obtain ⟨i, z, hi, hz, hsz, hby, hzs, hsize⟩ := tRow_some hrow
  have hlen : parts.toList.length = len := by have := congrArg List.length hidx; simpa using this
  let cells : List Value := parts.toList.flatMap fun p => (a.eval p.2).cells.toList
  have each : ∀ p ∈ parts.toList, (pev σ p.2).cells.length = tSize P e ∧ (pev σ p.2).cells.all PV.still = true := fun p hp => by
    have := List.all_eq_true.1 hall p hp
    simpa using this
  have rep : ∀ p ∈ parts.toList, (a.eval p.2).cells.size = tSize P e ∧ ∀ (j : Nat) pv, (pev σ p.2).cells[j]? = some pv → RF w c.S pv ((a.eval p.2).cells.getD j undef) ∧ ((a.eval p.2).cells.getD j undef).oneCell' = true := fun p hp => by
    obtain ⟨q1, q2⟩ := each p hp
    obtain ⟨q3, q4⟩ := (h.ev p.2).cells (all_still_cell q2)
    exact ⟨by omega, fun j pv hg => ⟨(q4 j pv hg).1.toRF (still_free (List.all_eq_true.1 q2 pv (List.mem_of_getElem? hg))), (q4 j pv hg).2⟩⟩
  have hrun : (Instr.buildSlice t len (parts.map fun p => (p.1, a.eval p.2))).run P w = .ok (.slice (some ⟨w.heap.size, 0, none⟩) len len) (w.alloc (.cells cells.toArray e)) := run_buildSlice ht hidx hk hlim hrow fun p hp => (rep p hp).1
  have hexec : (execOp a.eval o).run P w = .ok (.value (.slice (some ⟨w.heap.size, 0, none⟩) len len)) (w.alloc (.cells cells.toArray e)) := by
    unfold execOp
    simp only [ho, Sem.run_bind, hrun, Result.andThen_ok, Sem.run_pure]
  have hb : Below w.heap.size w (w.alloc (.cells cells.toArray e)) := (Below.refl _ _).alloc (Nat.le_refl _) _
  have hcsz : ∀ p ∈ parts.toList, (a.eval p.2).cells.toList.length = tSize P e := fun p hp => by simpa using (rep p hp).1
  have hcl : cells.length = len * tSize P e := by
    have : ∀ l : List (Nat × Operand), (∀ p ∈ l, (a.eval p.2).cells.toList.length = tSize P e) → (l.flatMap fun p => (a.eval p.2).cells.toList).length = l.length * tSize P e := by
      intro l
      induction l with
      | nil => intro _; simp
      | cons p l ih =>
        intro hl
        rw [List.flatMap_cons, List.length_append, hl p (by simp), ih fun q hq => hl q (by simp [hq]), List.length_cons, Nat.add_mul]; omega
    rw [← hlen]; exact this _ hcsz
  have hg : ∀ i j pv, getE (parts.toList.map fun p => (pev σ p.2).cells) i j = some pv → ∃ p, p ∈ parts.toList ∧ (pev σ p.2).cells[j]? = some pv ∧ j < tSize P e ∧ i < len ∧ cells[i * tSize P e + j]? = some ((a.eval p.2).cells.getD j undef) := by
    intro i j pv hg
    unfold getE at hg
    rw [List.getElem?_map] at hg
    cases hp : parts.toList[i]? with
    | none => simp [hp] at hg
    | some p =>
      simp only [hp, Option.map_some, Option.bind_some] at hg
      have hmem := List.mem_of_getElem? hp
      have hj : j < tSize P e := by
        rcases Nat.lt_or_ge j (pev σ p.2).cells.length with q | q
        · rw [(each p hmem).1] at q; exact q
        · rw [List.getElem?_eq_none q] at hg; cases hg
      have hi' : i < len := by
        rcases Nat.lt_or_ge i parts.toList.length with q | q
        · omega
        · rw [List.getElem?_eq_none q] at hp; cases hp
      refine ⟨p, hmem, hg, hj, hi', ?_⟩
      rw [flat_get (tSize P e) parts.toList (fun p => (a.eval p.2).cells.toList) hcsz i j hj, hp]
      simp only [Option.bind_some]
      rw [Array.getElem?_toList]
      exact getD_lt (by have := (rep p hmem).1; omega)
  let c' := c.lay (o.dst.getD 0) w.heap.size (.slice (some ⟨w.heap.size, 0, none⟩) len len) e True
  have hok : c'.Ok E.M (w.alloc (.cells cells.toArray e)) := lay_ok h.ok hb.size (fun _ => ⟨h.below.mine (Nat.le_refl _), by simp, fun hS => by have := h.ok.hS _ hS; omega⟩) fun _ k' _ hg' e => by have := (h.ok.hD k' hg').2.1; omega
  have hhd : c'.hd (.top (o.dst.getD 0)) = .slice (some ⟨w.heap.size, 0, none⟩) len len := lay_top.2.1
  have hrep : HRep P (w.alloc (.cells cells.toArray e)) c' (o.dst.getD 0) (.row e [] (parts.toList.map fun p => (pev σ p.2).cells)) := by
    refine ⟨cells, lay_top.2.2.1, hk, fun l hl => ?_, ?_, fun b hb' => ?_, fun i j pv hgE => ?_, fun i j pv hgE => ?_⟩
    · obtain ⟨p, hp, rfl⟩ := List.mem_map.1 hl
      exact (each p hp).1
    · rw [hhd]
      refine ⟨by rw [hcl, List.length_map, hlen], .inr ⟨w.heap.size, len, cells.toArray, by rw [List.length_map, hlen], Nat.zero_le _, heap_alloc_new w _, by rw [List.length_map, hlen]; exact Nat.le_refl _, ?_, by simp [hcl], ?_⟩⟩
      · have := Nat.le_mul_of_pos_right len hk
        unfold maxLen; omega
      · rw [List.length_map, hlen, ← hcl]; simp
    · rw [hhd] at hb'
      simp [Value.ownBlock] at hb'; subst hb'
      exact ⟨lay_top.2.2.2.2 trivial, lay_top.1⟩
    · obtain ⟨p, hp, q1, _, _, q⟩ := hg i j pv hgE
      rw [List.getD_eq_getElem?_getD, q]
      exact ((rep p hp).2 j pv q1).2
    · obtain ⟨p, hp, q1, _, _, q⟩ := hg i j pv hgE
      rw [List.getD_eq_getElem?_getD, q]
      exact (((rep p hp).2 j pv q1).1).same (fun b hS => hb.block b (h.ok.hS b hS)) fun b hb => hb
  refine does_new (dst_small h hd) h hd hexec hb hok (fun _ => Iff.rfl) (fun k hk => ⟨lay_agree hk, (lay_D hk).2⟩) hrep ?_
  obtain ⟨xs', r'⟩ := hrep
  have := RV.row (P := P) (w := w.alloc (.cells cells.toArray e)) (c := c') (.top (o.dst.getD 0)) e r'.ty r'.hd_one
  rwa [hhd] at this
end
section
variable {G : Prg} {ops : Array Oper} {k : Nat} {σ : St} {K : St → Prop}
theorem evo_does {o : Oper} (ho : opAt ops k = some o) (hg : pguard ops σ o = some true) {σ' : St} (h : ∀ {E : Ent} {S0 : Nat → Prop} {N : Nat} {a : Act} {w : World} {c : Ctx}, Inv G.P E S0 N σ a w c → (∀ k, o.dst = some k → k < N) → Does G.P E S0 N o a w σ') (next : EVO G ops (k + 1) σ' K) : EVO G ops k σ K :=
  evo_one ho hg (fun _ E S0 N a w c hi hd nx Q hn => h hi hd nx Q fun a' w' c' hi' => hn _ _ _ _ next hi') fun e => nomatch e
/-- an operation that does what r says, whatever the rest -/
def DoesAt (G : Prg) (ops : Array Oper) (k : Nat) (σ : St) (r : Res) : Prop := ∃ o, opAt ops k = some o ∧ pguard ops σ o = some true ∧ ∀ {E : Ent} {S0 : Nat → Prop} {N : Nat} {a : Act} {w : World} {c : Ctx}, Inv G.P E S0 N σ a w c → (∀ k, o.dst = some k → k < N) → Does G.P E S0 N o a w (r.put σ o.dst)
theorem evs_at {r : Res} (h : DoesAt G ops k σ r) (next : EVS G ops (k + 1) (r.put σ (dstAt ops k)) K) : EVS G ops k σ K := by
  obtain ⟨o, h1, h2, h3⟩ := h
  rw [dstAt_eq h1] at next
  exact evs_does h1 h2 h3 next
theorem evo_at {r : Res} (h : DoesAt G ops k σ r) (next : EVO G ops (k + 1) (r.put σ (dstAt ops k)) K) : EVO G ops k σ K := by
  obtain ⟨o, h1, h2, h3⟩ := h
  rw [dstAt_eq h1] at next
  exact evo_does h1 h2 h3 next
def isnilAt (G : Prg) (ops : Array Oper) (k : Nat) (σ : St) : Option PV := match onAt ops k σ with
  | some o => (match o.op with
    | .binOp .eql t x (.const (.slice none 0 0)) _ => (match tElem G.P t with
      | some _ => some (pev σ x)
      | none => none)
    | _ => none)
  | none => none
theorem evs_isnil {es : List (List PV)} (h : isnilAt G ops k σ = some (.sl es)) (h1 : es = [] → EVS G ops (k + 1) (setO σ (dstAt ops k) (vB true)) K) (h2 : EVS G ops (k + 1) (setO σ (dstAt ops k) (vB false)) K) : EVS G ops k σ K := by
  unfold isnilAt at h
  split at h
  case h_2 => cases h
  rename_i o ho
  split at h
  case h_2 => cases h
  rename_i t x t' hop
  split at h
  case h_2 => cases h
  rename_i e he
  injection h with hx
  obtain ⟨q1, q2⟩ := onAt_spec ho
  rw [dstAt_eq q1] at h1 h2
  refine evs_one q1 q2 (fun _ E S0 N a w c hi hd nx Q hn => ?_) fun e => nomatch e
  obtain ⟨b, hb, hdo⟩ := isnil_ok hop he hx hi hd
  refine hdo nx Q fun a' w' c' hi' => ?_
  rw [put_eq] at hi'
  cases b with
  | true => exact hn _ _ _ _ (h1 (hb rfl)) hi'
  | false => exact hn _ _ _ _ h2 hi'
/-- the elements of a slice that is written out -/
def bldAt (G : Prg) (ops : Array Oper) (k : Nat) (σ : St) : Option (Nat × List (List PV) × Nat) := match onAt ops k σ with
  | some o => (match o.op with
    | .buildSlice t len parts => (match tElem G.P t with
      | some e => if decide (parts.toList.map (·.1) = List.range len) && Nat.blt 0 (tSize G.P e) && Nat.ble (len * tSize G.P e) 16777216 && tRow G.P e && (parts.toList.all fun p => (pev σ p.2).cells.length == tSize G.P e && (pev σ p.2).cells.all PV.still) then some (e, parts.toList.map (fun p => (pev σ p.2).cells), o.dst.getD 0) else none
      | none => none)
    | _ => none)
  | none => none
def bldSAt (G : Prg) (ops : Array Oper) (k : Nat) (σ : St) : Option (List (List PV)) := match onAt ops k σ with
  | some o => (match o.op with
    | .buildSlice t len parts => (match tElem G.P t with
      | some e => if decide (parts.toList.map (·.1) = List.range len) && Nat.blt 0 (tSize G.P e) && Nat.ble (len * tSize G.P e) 16777216 && tRow G.P e && (parts.toList.all fun p => (pev σ p.2).cells.length == tSize G.P e && ((pev σ p.2).cells.map PV.softc).all PV.still) then some (parts.toList.map (fun p => (pev σ p.2).cells.map PV.softc)) else none
      | none => none)
    | _ => none)
  | none => none
theorem at_buildS {es : List (List PV)} (h : bldSAt G ops k σ = some es) : DoesAt G ops k σ (.val (.sl es)) := by
  unfold bldSAt at h
  split at h
  case h_2 => cases h
  rename_i o ho
  split at h
  case h_2 => cases h
  rename_i t len parts hop
  split at h
  case h_2 => cases h
  rename_i e' he
  split at h
  case isFalse => cases h
  rename_i hc
  simp only [Bool.and_eq_true, decide_eq_true_eq] at hc
  obtain ⟨⟨⟨⟨c1, c2⟩, c3⟩, c4⟩, c5⟩ := hc
  injection h with h
  subst h
  obtain ⟨q1, q2⟩ := onAt_spec ho
  exact ⟨o, q1, q2, fun hi hd => buildS_ok hop he c1 (by simpa using c2) (Nat.le_of_ble_eq_true c3) c4 c5 hi hd⟩
theorem at_build {e d : Nat} {es : List (List PV)} (h : bldAt G ops k σ = some (e, es, d)) : DoesAt G ops k σ (.new d (.row e [] es) (.row (.top d) e)) := by
  unfold bldAt at h
  split at h
  case h_2 => cases h
  rename_i o ho
  split at h
  case h_2 => cases h
  rename_i t len parts hop
  split at h
  case h_2 => cases h
  rename_i e' he
  split at h
  case isFalse => cases h
  rename_i hc
  simp only [Bool.and_eq_true, decide_eq_true_eq] at hc
  obtain ⟨⟨⟨⟨c1, c2⟩, c3⟩, c4⟩, c5⟩ := hc
  simp only [Option.some.injEq, Prod.mk.injEq] at h
  obtain ⟨rfl, rfl, rfl⟩ := h
  obtain ⟨q1, q2⟩ := onAt_spec ho
  exact ⟨o, q1, q2, fun hi hd => buildO_ok hop he c1 (by simpa using c2) (Nat.le_of_ble_eq_true c3) c4 c5 hi hd⟩
def sidxAt (G : Prg) (ops : Array Oper) (k : Nat) (σ : St) : Option (PV × PV) := match onAt ops k σ with
  | some o => (match o.op with
    | .index t x ix => (match G.P.underlying t with
      | some .string => some (pev σ x, pev σ ix)
      | _ => none)
    | _ => none)
  | none => none
theorem at_sidx {s : ByteArray} {i x : Int} {kd : IntKind} (h : sidxAt G ops k σ = some (.lit (.string s), .lit (.int kd i))) (hx : sidx s i = some x) : DoesAt G ops k σ (.val (.lit (.int .u8 x))) := by
  unfold sidxAt at h
  split at h
  case h_2 => cases h
  rename_i o ho
  split at h
  case h_2 => cases h
  rename_i t y z hop
  split at h
  case h_2 => cases h
  rename_i hu
  simp only [Option.some.injEq, Prod.mk.injEq] at h
  obtain ⟨h1, h2⟩ := h
  obtain ⟨q1, q2⟩ := onAt_spec ho
  refine ⟨o, q1, q2, fun hi hd => ?_⟩
  have r1 := hi.ev y
  rw [h1] at r1
  have r2 := hi.ev z
  rw [h2] at r2
  refine does_value hi hd ?_ (.free _ _ (.lit _))
  unfold sidx at hx
  split at hx
  case isFalse => cases hx
  rename_i h0
  obtain ⟨b, hb, rfl⟩ := Option.map_eq_some_iff.1 hx
  unfold execOp
  simp only [hop, r1.lit_eq, r2.lit_eq, Instr.index, asIntOf, Sem.run_bind, Sem.run_pure, Result.andThen_ok, run_underlying hu, h0, if_true, hb]
end
end Go.VI

/- copy into a row of one's own. -/
set_option linter.unusedVariables false
set_option linter.unusedSimpArgs false
set_option linter.unusedSectionVars false
namespace Go.VI
open Go.RowKit

theorem cpy_length {α : Type} {es ys : List α} {lo : Nat} (h : lo + ys.length ≤ es.length) : (cpy es lo ys).length = es.length := by unfold cpy; simp; omega
theorem cpy_get {α : Type} {es ys : List α} {lo : Nat} (h : lo + ys.length ≤ es.length) (i : Nat) : (cpy es lo ys)[i]? = if lo ≤ i ∧ i < lo + ys.length then ys[i - lo]? else es[i]? := by
  have ht : (es.take lo).length = lo := by simp; omega
  unfold cpy
  by_cases h1 : i < lo
  · rw [List.append_assoc, List.getElem?_append_left (by omega), List.getElem?_take, if_pos h1, if_neg (by omega)]
  · by_cases h2 : i < lo + ys.length
    · rw [List.append_assoc, List.getElem?_append_right (by omega), ht, List.getElem?_append_left (by omega), if_pos ⟨by omega, h2⟩]
    · rw [List.getElem?_append_right (by simp; omega), List.getElem?_drop, if_neg (by omega)]
      have : (List.take lo es ++ ys).length = lo + ys.length := by simp; omega
      rw [this, show lo + ys.length + (i - (lo + ys.length)) = i from by omega]
theorem cpy_map {α β : Type} (f : α → β) (es ys : List α) (lo : Nat) : (cpy es lo ys).map f = cpy (es.map f) lo (ys.map f) := by unfold cpy; simp
/-- where a copy goes to: the first element, how many there are -/
def cdst (h : HP) (g : Nat) : PV → Option (Nat × Nat)
  | .row (.top g') _ => if Nat.beq g' g = true then (match h.get g with
    | some (.row _ _ es) => some (0, es.length)
    | _ => none) else none
  | .part (.top g') _ lo n => if Nat.beq g' g = true then some (lo, n) else none
  | _ => none
/-- the same, the row's length being known -/
def cdstL (m g : Nat) : PV → Option (Nat × Nat)
  | .row (.top g') _ => if Nat.beq g' g = true then some (0, m) else none
  | .part (.top g') _ lo n => if Nat.beq g' g = true then some (lo, n) else none
  | _ => none
theorem cdst_of {h : HP} {g e m : Nat} {J : List (Nat × Nat)} {es : List (List PV)} (hg : h.get g = some (.row e J es)) (hm : es.length = m) (x : PV) : cdst h g x = cdstL m g x := by
  cases x with
  | row k0 e0 =>
    cases k0 with
    | top g0 =>
      simp only [cdst, cdstL]
      split
      · rw [hg]; simp [hm]
      · rfl
    | sub => rfl
  | part k0 e0 lo0 n0 => cases k0 <;> rfl
  | _ => rfl
theorem toListGetD (c : Array Value) (m : Nat) : c.toList.getD m undef = c.getD m undef := by simp [Array.getD_eq_getD_getElem?]
section
variable {P : Program} {E : Ent} {S0 : Nat → Prop} {N : Nat} {σ : St} {a : Act} {w : World} {c : Ctx}
theorem cdst_val {e g lo n : Nat} {d : PV} {V : Value} {es : List (List PV)} {xs0 : List Value} (r : RowRep P w c (.top g) e es (CellRep P w c g []) xs0) (hg : σ.hget g = some (.row e [] es)) (hd0 : cdst σ.h g d = some (lo, n)) (rd : RV P w c d V) :
    ∃ B cc', V = .slice B n cc' ∧ (0 < n → B = some ⟨c.τ (.top g), lo * tSize P e, none⟩) := by
  cases rd with
  | free pv v hf => cases hf <;> simp [cdst] at hd0
  | row k e' he h1 =>
    cases k with
    | sub => simp [cdst] at hd0
    | top g' =>
      simp only [cdst] at hd0
      split at hd0
      case isFalse => cases hd0
      rename_i hb
      have := Nat.eq_of_beq_eq_true hb
      subst this
      rw [show σ.h.get g' = some (.row e [] es) from hg] at hd0
      simp only [Option.some.injEq, Prod.mk.injEq] at hd0
      obtain ⟨rfl, rfl⟩ := hd0
      rcases r.own.2 with ⟨h0, hn⟩ | ⟨g2, cap, cur, h0, _⟩
      · exact ⟨none, 0, by rw [h0, hn], fun q => by omega⟩
      · have hob : (c.hd (.top g')).ownBlock = some g2 := by rw [h0]; rfl
        obtain ⟨_, hτ⟩ := r.blk g2 hob
        exact ⟨_, cap, h0, fun _ => by rw [hτ, Nat.zero_mul]⟩
  | part k e' lo' n' B cc' he hn hB =>
    cases k with
    | sub => simp [cdst] at hd0
    | top g' =>
      simp only [cdst] at hd0
      split at hd0
      case isFalse => cases hd0
      rename_i hb
      have := Nat.eq_of_beq_eq_true hb
      subst this
      simp only [Option.some.injEq, Prod.mk.injEq] at hd0
      obtain ⟨rfl, rfl⟩ := hd0
      have e1 : e' = e := he.symm.trans r.ty
      subst e1
      exact ⟨B, cc', rfl, hB⟩
  | _ => simp [cdst] at hd0
/-- Elements put into a row: what is stored, and what is said then. -/
theorem put_core {e g lo m : Nat} {es xs : List (List PV)} {xs0 news : List Value} (r : RowRep P w c (.top g) e es (CellRep P w c g []) xs0) (hlen : ∀ l ∈ xs, l.length = tSize P e) (hnl : news.length = xs.length * tSize P e) (hone : ∀ u ∈ news, u.oneCell' = true)
    (hrep : ∀ i j pv, getE xs i j = some pv → RF w c.S pv (news.getD (i * tSize P e + j) undef)) (hm1 : m ≤ xs.length) (hfit : lo + m ≤ es.length) (hmp : 0 < m) (h : Inv P E S0 N σ a w c) :
    ∃ (g' : Nat) (cur : Array Value), c.τ (.top g) = g' ∧ (∃ cap', c.hd (.top g) = .slice (some ⟨g', 0, none⟩) es.length cap') ∧ (storeCells ⟨g', lo * tSize P e, none⟩ (news.take (m * tSize P e))).run P w = .ok () (w.setRow g' (splice cur (lo * tSize P e) (news.take (m * tSize P e)))) ∧
      Inv P E S0 N (σ.put g (.row e [] (cpy es lo (xs.take m)))) a (w.setRow g' (splice cur (lo * tSize P e) (news.take (m * tSize P e)))) c := by
  have hyl : (xs.take m).length = m := by simp; omega
  obtain ⟨hl, ⟨_, hn⟩ | ⟨g', cap', cur, hv, hb, hgc, hnc, hcm, hcs, htake⟩⟩ := r.own
  · omega
  have hob : (c.hd (.top g)).ownBlock = some g' := by rw [hv]; rfl
  obtain ⟨hDk, hτ⟩ := r.blk g' hob
  let ns := news.take (m * tSize P e)
  have hmul : m * tSize P e ≤ news.length := by rw [hnl]; exact Nat.mul_le_mul_right _ hm1
  have hnsl : ns.length = m * tSize P e := by simp only [ns, List.length_take]; omega
  have hns1 : ∀ v ∈ ns, v.oneCell' = true := fun v hv' => hone v (List.mem_of_mem_take hv')
  have hfit2 : lo * tSize P e + ns.length ≤ cur.size := by
    rw [hnsl, hcs, ← Nat.add_mul]
    exact Nat.mul_le_mul_right _ (by omega)
  have hst := run_storeCells_at (P := P) g' (lo * tSize P e) e ns 0 cur w hgc (by simpa using hfit2) hns1
  simp only [Nat.add_zero] at hst
  let c1 := splice cur (lo * tSize P e) ns
  have hst' : (storeCells ⟨g', lo * tSize P e, none⟩ ns).run P w = .ok () (w.setRow g' c1) := by simpa [c1, splice] using hst
  have hcl := cpy_length (es := es) (ys := xs.take m) (lo := lo) (by omega)
  have hkl : ∀ l ∈ cpy es lo (xs.take m), l.length = tSize P e := fun l hl' => by
    unfold cpy at hl'
    simp only [List.mem_append] at hl'
    rcases hl' with (q | q) | q
    · exact r.len l (List.mem_of_mem_take q)
    · exact hlen l (List.mem_of_mem_take q)
    · exact r.len l (List.mem_of_mem_drop q)
  have hgE : ∀ i j pv, getE (cpy es lo (xs.take m)) i j = some pv → (lo ≤ i ∧ i < lo + m ∧ getE xs (i - lo) j = some pv) ∨ (¬ (lo ≤ i ∧ i < lo + m) ∧ getE es i j = some pv) := fun i j pv hg' => by
    unfold getE at hg' ⊢
    rw [cpy_get (by omega), hyl] at hg'
    split at hg'
    · rename_i q
      rw [List.getElem?_take, if_pos (by omega)] at hg'
      exact .inl ⟨q.1, q.2, hg'⟩
    · rename_i q
      exact .inr ⟨q, hg'⟩
  have hval : ∀ i j, j < tSize P e → i < es.length → c1.getD (i * tSize P e + j) undef = if lo ≤ i ∧ i < lo + m then news.getD ((i - lo) * tSize P e + j) undef else xs0.getD (i * tSize P e + j) undef := fun i j hj hi => by
    have hlt := idx_lt hi hj
    rw [splice_get hfit2, hnsl]
    have iff_ : (lo * tSize P e ≤ i * tSize P e + j ∧ i * tSize P e + j < lo * tSize P e + m * tSize P e) ↔ (lo ≤ i ∧ i < lo + m) := by
      rw [← Nat.add_mul]
      constructor
      · rintro ⟨q1, q2⟩
        refine ⟨?_, ?_⟩
        · rcases Nat.lt_or_ge i lo with q | q
          · have := Nat.mul_le_mul_right (tSize P e) (show i + 1 ≤ lo from q)
            rw [Nat.add_mul] at this; omega
          · exact q
        · rcases Nat.lt_or_ge i (lo + m) with q | q
          · exact q
          · have := Nat.mul_le_mul_right (tSize P e) q; omega
      · rintro ⟨q1, q2⟩
        have h1 := Nat.mul_le_mul_right (tSize P e) q1
        have h2 := Nat.mul_le_mul_right (tSize P e) (show i + 1 ≤ lo + m from q2)
        rw [Nat.add_mul] at h2
        omega
    by_cases q : lo ≤ i ∧ i < lo + m
    · rw [if_pos (iff_.2 q), if_pos q]
      have e1 : i * tSize P e + j - lo * tSize P e = (i - lo) * tSize P e + j := by rw [Nat.sub_mul]; have := Nat.mul_le_mul_right (tSize P e) q.1; omega
      have hin : (i - lo) * tSize P e + j < m * tSize P e := idx_lt (by omega) hj
      rw [e1, take_getD _ _ _ hin]
    · rw [if_neg (fun hh => q (iff_.1 hh)), if_neg q, ← htake, take_getD _ _ _ hlt]
      simp [Array.getD_eq_getD_getElem?]
  have hrow : HRep P (w.setRow g' c1) c g (.row e [] (cpy es lo (xs.take m))) := by
    have hh' : (w.setRow g' c1).heap[g']? = some (.cells c1 e (0, 0)) := by
      unfold World.setRow
      rw [Array.getElem?_modify, if_pos rfl, hgc]; rfl
    refine ⟨c1.toList.take (es.length * tSize P e), r.ty, r.pos, hkl, ?_, r.blk, fun i j pv hg' => ?_, fun i j pv hg' => ?_⟩
    · rw [hcl]
      have hc1 : c1.size = cur.size := splice_size hfit2
      refine ⟨?_, .inr ⟨g', cap', c1, hv, hb, hh', hnc, hcm, by rw [hc1, hcs], rfl⟩⟩
      simp only [List.length_take, Array.length_toList, hc1, hcs]
      have := Nat.mul_le_mul_right (tSize P e) hnc
      omega
    · have hlt := getE_lt hkl hg'
      rw [hcl] at hlt
      rw [take_getD _ _ _ (idx_lt hlt.1 hlt.2), toListGetD, hval i j hlt.2 hlt.1]
      rcases hgE i j pv hg' with ⟨q1, q2, q3⟩ | ⟨q1, q3⟩
      · rw [if_pos ⟨q1, q2⟩]
        have hlt2 := getE_lt hlen q3
        have hin := idx_lt hlt2.1 hlt2.2
        rw [← hnl] at hin
        rw [List.getD_eq_getElem?_getD, List.getElem?_eq_getElem hin]
        exact hone _ (List.getElem_mem hin)
      · rw [if_neg q1]; exact r.one i j pv q3
    · have hlt := getE_lt hkl hg'
      rw [hcl] at hlt
      rw [take_getD _ _ _ (idx_lt hlt.1 hlt.2), toListGetD, hval i j hlt.2 hlt.1]
      have hsame : Same c.S w (w.setRow g' c1) := fun b hS => setRow_other w g' b c1 fun q => (h.ok.hD _ hDk).2.2 (by rw [hτ]; exact q ▸ hS)
      have lift : ∀ {v : Value}, RF w c.S pv v → RF (w.setRow g' c1) c.S pv v := fun hr => RF.same hsame (fun _ h => h) hr
      have : RF (w.setRow g' c1) c.S pv (if lo ≤ i ∧ i < lo + m then news.getD ((i - lo) * tSize P e + j) undef else xs0.getD (i * tSize P e + j) undef) := by
        rcases hgE i j pv hg' with ⟨q1, q2, q3⟩ | ⟨q1, q3⟩
        · rw [if_pos ⟨q1, q2⟩]; exact lift (hrep _ _ pv q3)
        · rw [if_neg q1]; exact lift (r.rep i j pv q3)
      exact this
  have hinv := h.write (k0 := .top g) hDk c1 (o := .row e [] (cpy es lo (xs.take m))) (by rw [hτ]; exact hrow)
  rw [hτ] at hinv
  exact ⟨g', cur, hτ, ⟨cap', hv⟩, hst', hinv⟩
theorem copy_ok {o : Oper} {t t' e g lo n : Nat} {d x : Operand} {es xs : List (List PV)} (ho : o.op = .call { callee := .builtin .copy, args := #[d, x], argTypes := #[t, t'] }) (ht : tElem P t = some e) (hinfo : ∃ i, P.info? e = some i)
    (hg : σ.hget g = some (.row e [] es)) (hd0 : cdst σ.h g (pev σ d) = some (lo, n)) (hfit : lo + n ≤ es.length) (hxs : (pev σ x).elems σ.h = some xs) (hflat : (pev σ x).flat σ.h = true) (hlen : ∀ l ∈ xs, l.length = tSize P e)
    (h : Inv P E S0 N σ a w c) (hd : ∀ k, o.dst = some k → k < N) :
    Does P E S0 N o a w (Res.put σ o.dst ⟨[], [(g, .row e [] (cpy es lo (xs.take (min xs.length n))))], .lit (.int .i64 (min xs.length n : Nat))⟩) := by
  obtain ⟨xs0, r⟩ := h.objs g _ hg
  have hk0 := r.pos
  -- the source
  obtain ⟨A, cc, news, hX, hnl, hA, hcells, hone, hrep⟩ := elems_rep h.objs (h.ev x) hxs hflat hlen hk0
  have hD := cdst_val r hg hd0 (h.ev d)
  obtain ⟨B, cc', hV, hB⟩ := hD
  have hu := tElem_some ht
  generalize hm : min xs.length n = m
  have hm1 : m ≤ xs.length := by omega
  have hm2 : m ≤ n := by omega
  have hmn : Nat.min xs.length n = m := hm
  have hyl : (xs.take m).length = m := by simp; omega
  -- nothing to be copied
  rcases Nat.eq_zero_or_pos m with hm0 | hmp
  · have hrun : (Builtin.copy_ #[t, t'] o.type #[a.eval d, a.eval x]).run P w = .ok (goInt 0) w := by
      rw [hV, hX]
      have hfc : (Builtin.firstCells (tSize P e) 0 (.slice A xs.length cc)).run P w = .ok #[] w := by
        cases A with
        | none => exact run_firstCells_none (P := P) (w := w) (tSize P e) 0 xs.length cc
        | some ad => have := run_firstCells_some (P := P) (w := w) (tSize P e) 0 ad xs.length cc [] (by simp) (by simp)
                     simpa using this
      unfold Builtin.copy_
      simp only [List.getElem?_toArray, List.getElem?_cons_zero, List.getElem?_cons_succ, Sem.run_bind, run_underlying hu, Result.andThen_ok, Builtin.lenOf, Sem.run_pure, hmn, hm0, run_sizeOf hinfo, hfc]
      cases B <;> simp [storeCells, Sem.run_bind, Sem.run_pure]
    have hexec : (execOp a.eval o).run P w = .ok (.value (.int .i64 0)) w := by
      unfold execOp
      simp only [ho, resolve, invoke, builtin, Sem.run_bind, Sem.run_pure, Result.andThen_ok, List.map_toArray, List.map_cons, List.map_nil, hrun]
      rfl
    have hes : cpy es lo (xs.take m) = es := by rw [hm0]; unfold cpy; simp
    rw [hes]
    have hinv : Inv P E S0 N (σ.put g (.row e [] es)) a w c := by
      refine ⟨h.below, h.ok, h.sub, h.sup, h.slots, fun g' o' hg' => ?_, h.pin, h.small, h.size, h.defers⟩
      rw [hget_put] at hg'
      split at hg'
      · rename_i e'; subst e'; injection hg' with hg'; subst hg'; exact h.objs _ _ hg
      · exact h.objs g' o' hg'
    have := does_mut (σ := σ) (r := ⟨[], [(g, .row e [] es)], .lit (.int .i64 (m : Nat))⟩) (c' := c) hd (.inl hexec) hinv (by rw [hm0]; exact .free _ _ (.lit _))
    exact this
  · -- the row's block
    obtain ⟨hl, ⟨_, hn⟩ | ⟨g', cap', cur, hv, hb, hgc, hnc, hcm, hcs, htake⟩⟩ := r.own
    · omega
    have hob : (c.hd (.top g)).ownBlock = some g' := by rw [hv]; rfl
    obtain ⟨hDk, hτ⟩ := r.blk g' hob
    have hBs := hB (by omega)
    obtain ⟨ad, had⟩ := hA (by intro q; rw [q] at hm1; simp at hm1; omega)
    let ns := news.take (m * tSize P e)
    have hmul : m * tSize P e ≤ news.length := by rw [hnl]; exact Nat.mul_le_mul_right _ hm1
    have hnsl : ns.length = m * tSize P e := by simp only [ns, List.length_take]; omega
    have hfc : (Builtin.firstCells (tSize P e) m (.slice (some ad) xs.length cc)).run P w = .ok ns.toArray w := by
      refine run_firstCells_some (P := P) (w := w) (tSize P e) m ad xs.length cc ns hnsl fun j v hj => ?_
      have : news[j]? = some v := by
        simp only [ns, List.getElem?_take] at hj
        split at hj
        · exact hj
        · cases hj
      exact hcells ad had j v this
    have hns1 : ∀ v ∈ ns, v.oneCell' = true := fun v hv' => hone v (List.mem_of_mem_take hv')
    have hfit2 : lo * tSize P e + ns.length ≤ cur.size := by
      rw [hnsl, hcs, ← Nat.add_mul]
      exact Nat.mul_le_mul_right _ (by omega)
    have hst := run_storeCells_at (P := P) g' (lo * tSize P e) e ns 0 cur w hgc (by simpa using hfit2) hns1
    simp only [Nat.add_zero] at hst
    let c1 := splice cur (lo * tSize P e) ns
    have hst' : (storeCells ⟨g', lo * tSize P e, none⟩ ns).run P w = .ok () (w.setRow g' c1) := by simpa [c1, splice] using hst
    have hrun : (Builtin.copy_ #[t, t'] o.type #[a.eval d, a.eval x]).run P w = .ok (goInt m) (w.setRow g' c1) := by
      rw [hV, hX, hBs, had, hτ]
      unfold Builtin.copy_
      simp only [List.getElem?_toArray, List.getElem?_cons_zero, List.getElem?_cons_succ, Sem.run_bind, run_underlying hu, Result.andThen_ok, Builtin.lenOf, Sem.run_pure, hmn, run_sizeOf hinfo, hfc, hst']
    have hexec : (execOp a.eval o).run P w = .ok (.value (.int .i64 (m : Nat))) (w.setRow g' c1) := by
      unfold execOp
      simp only [ho, resolve, invoke, builtin, Sem.run_bind, Sem.run_pure, Result.andThen_ok, List.map_toArray, List.map_cons, List.map_nil, hrun]
      rfl
    have hcl := cpy_length (es := es) (ys := xs.take m) (lo := lo) (by omega)
    have hkl : ∀ l ∈ cpy es lo (xs.take m), l.length = tSize P e := fun l hl' => by
      unfold cpy at hl'
      simp only [List.mem_append] at hl'
      rcases hl' with (q | q) | q
      · exact r.len l (List.mem_of_mem_take q)
      · exact hlen l (List.mem_of_mem_take q)
      · exact r.len l (List.mem_of_mem_drop q)
    have hgE : ∀ i j pv, getE (cpy es lo (xs.take m)) i j = some pv → (lo ≤ i ∧ i < lo + m ∧ getE xs (i - lo) j = some pv) ∨ (¬ (lo ≤ i ∧ i < lo + m) ∧ getE es i j = some pv) := fun i j pv hg' => by
      unfold getE at hg' ⊢
      rw [cpy_get (by omega), hyl] at hg'
      split at hg'
      · rename_i q
        rw [List.getElem?_take, if_pos (by omega)] at hg'
        exact .inl ⟨q.1, q.2, hg'⟩
      · rename_i q
        exact .inr ⟨q, hg'⟩
    have hval : ∀ i j, j < tSize P e → i < es.length → c1.getD (i * tSize P e + j) undef = if lo ≤ i ∧ i < lo + m then news.getD ((i - lo) * tSize P e + j) undef else xs0.getD (i * tSize P e + j) undef := fun i j hj hi => by
      have hlt := idx_lt hi hj
      rw [splice_get hfit2, hnsl]
      have iff_ : (lo * tSize P e ≤ i * tSize P e + j ∧ i * tSize P e + j < lo * tSize P e + m * tSize P e) ↔ (lo ≤ i ∧ i < lo + m) := by
        rw [← Nat.add_mul]
        constructor
        · rintro ⟨q1, q2⟩
          refine ⟨?_, ?_⟩
          · rcases Nat.lt_or_ge i lo with q | q
            · have := Nat.mul_le_mul_right (tSize P e) (show i + 1 ≤ lo from q)
              rw [Nat.add_mul] at this; omega
            · exact q
          · rcases Nat.lt_or_ge i (lo + m) with q | q
            · exact q
            · have := Nat.mul_le_mul_right (tSize P e) q; omega
        · rintro ⟨q1, q2⟩
          have h1 := Nat.mul_le_mul_right (tSize P e) q1
          have h2 := Nat.mul_le_mul_right (tSize P e) (show i + 1 ≤ lo + m from q2)
          rw [Nat.add_mul] at h2
          omega
      by_cases q : lo ≤ i ∧ i < lo + m
      · rw [if_pos (iff_.2 q), if_pos q]
        have e1 : i * tSize P e + j - lo * tSize P e = (i - lo) * tSize P e + j := by rw [Nat.sub_mul]; have := Nat.mul_le_mul_right (tSize P e) q.1; omega
        have hin : (i - lo) * tSize P e + j < m * tSize P e := idx_lt (by omega) hj
        rw [e1, take_getD _ _ _ hin]
      · rw [if_neg (fun hh => q (iff_.1 hh)), if_neg q, ← htake, take_getD _ _ _ hlt]
        simp [Array.getD_eq_getD_getElem?]
    have hrow : HRep P (w.setRow g' c1) c g (.row e [] (cpy es lo (xs.take m))) := by
      have hh' : (w.setRow g' c1).heap[g']? = some (.cells c1 e (0, 0)) := by
        unfold World.setRow
        rw [Array.getElem?_modify, if_pos rfl, hgc]; rfl
      refine ⟨c1.toList.take (es.length * tSize P e), r.ty, r.pos, hkl, ?_, r.blk, fun i j pv hg' => ?_, fun i j pv hg' => ?_⟩
      · rw [hcl]
        have hc1 : c1.size = cur.size := splice_size hfit2
        refine ⟨?_, .inr ⟨g', cap', c1, hv, hb, hh', hnc, hcm, by rw [hc1, hcs], rfl⟩⟩
        simp only [List.length_take, Array.length_toList, hc1, hcs]
        have := Nat.mul_le_mul_right (tSize P e) hnc
        omega
      · have hlt := getE_lt hkl hg'
        rw [hcl] at hlt
        rw [take_getD _ _ _ (idx_lt hlt.1 hlt.2), toListGetD, hval i j hlt.2 hlt.1]
        rcases hgE i j pv hg' with ⟨q1, q2, q3⟩ | ⟨q1, q3⟩
        · rw [if_pos ⟨q1, q2⟩]
          have hlt2 := getE_lt hlen q3
          have hin := idx_lt hlt2.1 hlt2.2
          rw [← hnl] at hin
          rw [List.getD_eq_getElem?_getD, List.getElem?_eq_getElem hin]
          exact hone _ (List.getElem_mem hin)
        · rw [if_neg q1]; exact r.one i j pv q3
      · have hlt := getE_lt hkl hg'
        rw [hcl] at hlt
        rw [take_getD _ _ _ (idx_lt hlt.1 hlt.2), toListGetD, hval i j hlt.2 hlt.1]
        have hsame : Same c.S w (w.setRow g' c1) := fun b hS => setRow_other w g' b c1 fun q => (h.ok.hD _ hDk).2.2 (by rw [hτ]; exact q ▸ hS)
        have lift : ∀ {v : Value}, RF w c.S pv v → RF (w.setRow g' c1) c.S pv v := fun hr => RF.same hsame (fun _ h => h) hr
        have : RF (w.setRow g' c1) c.S pv (if lo ≤ i ∧ i < lo + m then news.getD ((i - lo) * tSize P e + j) undef else xs0.getD (i * tSize P e + j) undef) := by
          rcases hgE i j pv hg' with ⟨q1, q2, q3⟩ | ⟨q1, q3⟩
          · rw [if_pos ⟨q1, q2⟩]; exact lift (hrep _ _ pv q3)
          · rw [if_neg q1]; exact lift (r.rep i j pv q3)
        exact this
    have hinv := h.write (k0 := .top g) hDk c1 (o := .row e [] (cpy es lo (xs.take m))) (by rw [hτ]; exact hrow)
    rw [hτ] at hinv
    exact does_mut (σ := σ) (r := ⟨[], [(g, .row e [] (cpy es lo (xs.take m)))], .lit (.int .i64 (m : Nat))⟩) (c' := c) hd (.inl hexec) hinv (.free _ _ (.lit _))
theorem zeroCells_len (z : Array Value) (n : Nat) : (Builtin.zeroCells z n).toList.length = n * z.size := by simp [Builtin.zeroCells]
theorem zeroCells_get {z : Array Value} {n i j : Nat} (hi : i < n) (hj : j < z.size) : (Builtin.zeroCells z n).toList.getD (i * z.size + j) undef = z.getD j undef := by
  have hlt : i * z.size + j < n * z.size := idx_lt hi hj
  have hmod : (i * z.size + j) % z.size = j := by rw [Nat.add_comm, Nat.add_mul_mod_self_right, Nat.mod_eq_of_lt hj]
  have hlt2 : i * z.size + j < (Array.range (n * z.size)).size := by simpa using hlt
  have hz : 0 < z.size := by omega
  simp only [Builtin.zeroCells, Array.toList_map, Array.toList_range, List.getD_eq_getElem?_getD, List.getElem?_map, List.getElem?_range hlt, Option.map_some, Option.getD_some, hmod]
  rw [getElem!_pos z j hj]
  simp [Array.getD_eq_getD_getElem?, hj]
theorem clear_ok {o : Oper} {t e g lo n : Nat} {d : Operand} {es : List (List PV)} {z : Value} (ho : o.op = .call { callee := .builtin .clear, args := #[d], argTypes := #[t] }) (ht : tElem P t = some e) (hz : tZero P e = some z) (hrow : tRow P e = true) (hz1 : z.cells.toList.all Value.oneCell' = true)
    (hg : σ.hget g = some (.row e [] es)) (hd0 : cdst σ.h g (pev σ d) = some (lo, n)) (hfit : lo + n ≤ es.length) (h : Inv P E S0 N σ a w c) (hd : ∀ k, o.dst = some k → k < N) :
    Does P E S0 N o a w (Res.put σ o.dst ⟨[], [(g, .row e [] (cpy es lo (List.replicate n (z.cells.toList.map ofE))))], .tup []⟩) := by
  obtain ⟨i, z', hi, hz', hsz, hby, hzs, hsize⟩ := tRow_some hrow
  obtain rfl : z' = z := by unfold tZero at hz; simp [hi, hz'] at hz; exact hz
  obtain ⟨xs0, r⟩ := h.objs g _ hg
  have hk0 := r.pos
  obtain ⟨B, cc', hV, hB⟩ := cdst_val r hg hd0 (h.ev d)
  have hu := tElem_some ht
  have hzv : (zeroValue e).run P w = .ok z' w := by simp [zeroValue, typeInfo, hi, hz']
  have hval : ∀ {w' : World}, (Builtin.clear_ #[t] o.type #[a.eval d]).run P w = .ok (.tuple #[]) w' → (execOp a.eval o).run P w = .ok (.value (.tuple #[])) w' := fun hrun => by
    unfold execOp
    simp only [ho, resolve, invoke, builtin, Sem.run_bind, Sem.run_pure, Result.andThen_ok, List.map_toArray, List.map_cons, List.map_nil, hrun]
  rcases Nat.eq_zero_or_pos n with hn0 | hnp
  · subst hn0
    have hrun : (Builtin.clear_ #[t] o.type #[a.eval d]).run P w = .ok (.tuple #[]) w := by
      rw [hV]
      unfold Builtin.clear_
      cases B <;> simp only [List.getElem?_toArray, List.getElem?_cons_zero, Sem.run_bind, run_underlying hu, Result.andThen_ok, Sem.run_pure]
    have hes : cpy es lo (List.replicate 0 (z'.cells.toList.map ofE)) = es := by unfold cpy; simp
    rw [hes]
    have hinv : Inv P E S0 N (σ.put g (.row e [] es)) a w c := by
      refine ⟨h.below, h.ok, h.sub, h.sup, h.slots, fun g' o' hg' => ?_, h.pin, h.small, h.size, h.defers⟩
      rw [hget_put] at hg'
      split at hg'
      · rename_i e'; subst e'; injection hg' with hg'; subst hg'; exact h.objs _ _ hg
      · exact h.objs g' o' hg'
    exact does_mut (σ := σ) (r := ⟨[], [(g, .row e [] es)], .tup []⟩) (c' := c) hd (.inl (hval hrun)) hinv (.free _ _ (.tup _ _ rfl (by simp)))
  · have hzl : (z'.cells.toList.map ofE).length = tSize P e := by simp [hzs, hsize]
    have hzn : z'.cells.size = tSize P e := by rw [hzs, hsize]
    obtain ⟨g', cur, hτ, ⟨cap', hhd⟩, hst, hinv⟩ := put_core (m := n) (lo := lo) (xs := List.replicate n (z'.cells.toList.map ofE)) (news := (Builtin.zeroCells z'.cells n).toList) r (fun l hl => by rw [List.eq_of_mem_replicate hl]; exact hzl) (by rw [zeroCells_len, List.length_replicate, hzn])
      (fun u hu' => by
        obtain ⟨q, hq⟩ := List.mem_iff_getElem?.1 hu'
        have hql := len_of_get hq
        simp only [Builtin.zeroCells, Array.toList_map, Array.toList_range] at hq
        rw [List.getElem?_map] at hq
        obtain ⟨v, hv, rfl⟩ := Option.map_eq_some_iff.1 hq
        have hpos : 0 < z'.cells.size := by omega
        have hm := Nat.mod_lt v hpos
        rw [getElem!_pos z'.cells _ hm]
        exact List.all_eq_true.1 hz1 _ (by simp))
      (fun i j pv hgE => by
        unfold getE at hgE
        rw [List.getElem?_replicate] at hgE
        split at hgE
        case isFalse => cases hgE
        rename_i hi'
        simp only [Option.bind_some, List.getElem?_map] at hgE
        obtain ⟨u, hu', rfl⟩ := Option.map_eq_some_iff.1 hgE
        have hj : j < z'.cells.size := by have := len_of_get hu'; simpa using this
        rw [← hzn, zeroCells_get hi' hj]
        have : z'.cells.getD j undef = u := by
          rw [Array.getElem?_toList] at hu'
          simp [Array.getD_eq_getD_getElem?, hu']
        rw [this]
        exact ofE_RF w c.S u) (by simp) hfit hnp h
    have htk : ((Builtin.zeroCells z'.cells n).toList.take (n * tSize P e)) = (Builtin.zeroCells z'.cells n).toList := List.take_of_length_le (by rw [zeroCells_len, hzn]; exact Nat.le_refl _)
    have htr : (List.replicate n (z'.cells.toList.map ofE)).take n = List.replicate n (z'.cells.toList.map ofE) := List.take_of_length_le (by simp)
    rw [htk] at hst
    rw [htr] at hinv
    have hBs := hB hnp
    have hrun : (Builtin.clear_ #[t] o.type #[a.eval d]).run P w = .ok (.tuple #[]) (w.setRow g' (splice cur (lo * tSize P e) (Builtin.zeroCells z'.cells n).toList)) := by
      rw [hV, hBs, hτ]
      obtain ⟨n', rfl⟩ : ∃ n', n = n' + 1 := ⟨n - 1, by omega⟩
      unfold Builtin.clear_
      simp only [List.getElem?_toArray, List.getElem?_cons_zero, Sem.run_bind, run_underlying hu, Result.andThen_ok, hzv, hst, Sem.run_pure]
    exact does_mut (σ := σ) (r := ⟨[], [(g, .row e [] (cpy es lo (List.replicate n (z'.cells.toList.map ofE))))], .tup []⟩) (c' := c) hd (.inl (hval hrun)) (by rw [htk] at hinv; exact hinv) (.free _ _ (.tup _ _ rfl (by simp)))
end
section
variable {G : Prg} {ops : Array Oper} {k : Nat} {σ : St} {K : St → Prop}
def cpyAt (G : Prg) (ops : Array Oper) (k : Nat) (σ : St) : Option (PV × PV × Nat × Nat) := match onAt ops k σ with
  | some o => (match o.op with
    | .call { callee := .builtin .copy, args := args, argTypes := tys } => (match args.toList, tys.toList with
      | [d, x], [t, _] => (match tElem G.P t with
        | some e => if (G.P.info? e).isSome = true then some (pev σ d, pev σ x, e, tSize G.P e) else none
        | none => none)
      | _, _ => none)
    | _ => none)
  | none => none
/-- copy: l: the row, from place lo on n elements may be written; l2: what is read -/
theorem at_copy {α : Type} {c : α → List PV} {l l2 : List α} {d x : PV} {e sz g lo n : Nat} (h : cpyAt G ops k σ = some (d, x, e, sz)) (hg : σ.h.get g = some (.row e [] (l.map c))) (hd : cdstL l.length g d = some (lo, n)) (hfit : lo + n ≤ l.length)
    (hx : x.elems σ.h = some (l2.map c)) (hf : x.flat σ.h = true) (hs : ∀ y, (c y).length = sz) : DoesAt G ops k σ ⟨[], [(g, .row e [] ((cpy l lo (l2.take (min l2.length n))).map c))], vI (min l2.length n : Nat)⟩ := by
  unfold cpyAt at h
  split at h
  case h_2 => cases h
  rename_i o ho
  split at h
  case h_2 => cases h
  rename_i args tys hop
  split at h
  case h_2 => cases h
  rename_i d' x' t t' hargs htys
  split at h
  case h_2 => cases h
  rename_i e' he
  split at h
  case isFalse => cases h
  rename_i hinf
  simp only [Option.some.injEq, Prod.mk.injEq] at h
  obtain ⟨rfl, rfl, rfl, rfl⟩ := h
  obtain ⟨q1, q2⟩ := onAt_spec ho
  obtain rfl : args = #[d', x'] := Array.toList_inj.1 hargs
  obtain rfl : tys = #[t, t'] := Array.toList_inj.1 htys
  refine ⟨o, q1, q2, fun hi hdd => ?_⟩
  have hd2 : cdst σ.h g (pev σ d') = some (lo, n) := by rw [cdst_of hg (List.length_map _)]; exact hd
  have := copy_ok (n := n) hop he (Option.isSome_iff_exists.1 hinf) hg hd2 (by simpa using hfit) hx hf (fun r hr => by
    obtain ⟨y, _, rfl⟩ := List.mem_map.1 hr
    exact hs y) hi hdd
  rw [List.length_map, ← List.map_take, ← cpy_map] at this
  exact this
/-- copy, where the order is drawn -/
theorem evd_copy {α : Type} {c : α → List PV} {D : DD} {m : Nat} {l l2 : List α} {d x : PV} {e sz g lo n : Nat} (hm : Nat.ble m k = false) (h : cpyAt G ops k σ = some (d, x, e, sz)) (hg : σ.h.get g = some (.row e [] (l.map c))) (hd : cdstL l.length g d = some (lo, n)) (hfit : lo + n ≤ l.length)
    (hx : x.elems σ.h = some (l2.map c)) (hf : x.flat σ.h = true) (hs : ∀ y, (c y).length = sz) (hT : inL [g] (D.T k) = true) (hav : avB ops k (D.av k) σ = true) (hfv : (Avoid (D.fv k) (vI (min l2.length n : Nat)) && !((D.fv k).any fun y => Nat.beq y g) && (HO.row e [] ((cpy l lo (l2.take (min l2.length n))).map c)).avoid (D.fv k)) = true)
    (next : EVD G ops D m (k + 1) (setO ⟨σ.s, (g, .row e [] ((cpy l lo (l2.take (min l2.length n))).map c)) :: σ.h⟩ (dstAt ops k) (vI (min l2.length n : Nat))) K) : EVD G ops D m k σ K := by
  unfold cpyAt at h
  split at h
  case h_2 => cases h
  rename_i o ho
  split at h
  case h_2 => cases h
  rename_i args tys hop
  split at h
  case h_2 => cases h
  rename_i d' x' t t' hargs htys
  split at h
  case h_2 => cases h
  rename_i e' he
  split at h
  case isFalse => cases h
  rename_i hinf
  simp only [Option.some.injEq, Prod.mk.injEq] at h
  obtain ⟨rfl, rfl, rfl, rfl⟩ := h
  obtain ⟨q1, q2⟩ := onAt_spec ho
  obtain rfl : args = #[d', x'] := Array.toList_inj.1 hargs
  obtain rfl : tys = #[t, t'] := Array.toList_inj.1 htys
  rw [dstAt_eq q1] at next
  have htag : (pev σ d').has (ofTag g) = true := by
    generalize pev σ d' = X at hd
    cases X with
    | row k0 e0 =>
      cases k0 with
      | top g0 =>
        simp only [cdstL] at hd
        split at hd
        · rename_i hb; exact hb
        · cases hd
      | sub => cases hd
    | part k0 e0 lo0 n0 =>
      cases k0 with
      | top g0 =>
        simp only [cdstL] at hd
        split at hd
        · rename_i hb; exact hb
        · cases hd
      | sub => cases hd
    | _ => cases hd
  have hds : DStep G.P ops o (D.rd k) (D.F k) σ ⟨[], [(g, .row e' [] ((cpy l lo (l2.take (min l2.length n))).map c))], vI (min l2.length n : Nat)⟩ := fun T τ lc => by
    obtain ⟨h1, h2⟩ := local_pev lc
    have h2 := h2 (by rw [hop]; rfl)
    have md : (d' : Operand) ∈ o.op.operands.toList := by rw [hop]; simp [Op.operands, Call.operands]
    have mx : (x' : Operand) ∈ o.op.operands.toList := by rw [hop]; simp [Op.operands, Call.operands]
    have hgT : g ∉ T := fun hm => by
      have := List.all_eq_true.1 (h2 _ md) g hm
      rw [htag] at this; cases this
    have hgτ : τ.hget g = some (.row e' [] (l.map c)) := (lc.heap g hgT).symm.trans hg
    refine .inr ⟨by rw [local_guard lc]; exact q2, fun E S0 N a w cx hi hcl hdd next Q hn => ?_⟩
    have hd2 : cdst τ.h g (pev τ d') = some (lo, n) := by rw [cdst_of hgτ (List.length_map _), h1 _ md]; exact hd
    have := copy_ok (n := n) hop he (Option.isSome_iff_exists.1 hinf) hgτ hd2 (by simpa using hfit) (by rw [h1 _ mx, ← elems_ag lc.heap (h2 _ mx)]; exact hx) (by rw [h1 _ mx, ← flat_ag lc.heap (h2 _ mx)]; exact hf) (fun r hr => by
      obtain ⟨y, _, rfl⟩ := List.mem_map.1 hr
      exact hs y) hi hdd
    rw [List.length_map, ← List.map_take, ← cpy_map] at this
    exact this next Q fun a' w' c' hi' => hn a' w' c' (hi'.alike (alike_set o.dst g _ _))
  simp only [Bool.and_eq_true] at hfv
  refine evd_one hm q1 ⟨[], [(g, _)], _⟩ hds (avB_spec q1 hav) hT (by simp only [List.all_cons, List.all_nil, Bool.and_true, Bool.and_eq_true]; exact ⟨hfv.1.1, hfv.1.2, hfv.2⟩) ?_
  have ee : σ.act o.dst ⟨[], [(g, .row e' [] ((cpy l lo (l2.take (min l2.length n))).map c))], vI (min l2.length n : Nat)⟩ = setO ⟨σ.s, (g, .row e' [] ((cpy l lo (l2.take (min l2.length n))).map c)) :: σ.h⟩ o.dst (vI (min l2.length n : Nat)) := by
    have : ∀ h : HP, h.delL [] = h := by
      intro h
      induction h with
      | nil => rfl
      | cons x h ih => obtain ⟨g, o⟩ := x; simp [HP.delL, ih]
    simp only [St.act, this, List.singleton_append]
  rw [ee]; exact next
theorem elems_part {α : Type} {c : α → List PV} {h : HP} {kk : Key} {e lo n : Nat} {l : List α} (hr : h.rowAt kk = some (l.map c)) (hfit : lo + n ≤ l.length) : PV.elems h (.part kk e lo n) = some (((l.drop lo).take n).map c) := by
  simp only [PV.elems, hr, List.length_map, hfit, if_true, List.map_take, List.map_drop]
theorem part_fit {α : Type} {l : List α} {lo hi : Int} (h : (decide (0 ≤ lo) && (decide (lo ≤ hi) && decide (hi ≤ (l.length : Int)))) = true) : lo.toNat + (hi.toNat - lo.toNat) ≤ l.length := by
  simp only [Bool.and_eq_true, decide_eq_true_eq] at h
  omega
theorem st_slP {α : Type} {c : α → List PV} {l : List α} {kk : Key} {e sz : Nat} {k1 k2 : IntKind} {lo hi : Int} (h : slAt G ops k σ = some (.row kk e, sz, some (.lit (.int k1 lo)), some (.lit (.int k2 hi)))) (hr : σ.h.rowAt kk = some (l.map c)) (hs : ∀ y, (c y).length = sz)
    (hb : (decide (0 ≤ lo) && (decide (lo ≤ hi) && decide (hi ≤ (l.length : Int)))) = true) : stepAt G ops k σ = some (.val (.part kk e lo.toNat (hi.toNat - lo.toNat))) := by
  simp only [Bool.and_eq_true, decide_eq_true_eq] at hb
  exact st_slR h hr hs (by simp only [loN, pidx_of hb.1]) (by simp only [hiN, pidx_of (show 0 ≤ hi by omega)]) ⟨by omega, by omega⟩
theorem st_slPL {α : Type} {c : α → List PV} {l : List α} {kk : Key} {e sz : Nat} {k1 : IntKind} {lo : Int} (h : slAt G ops k σ = some (.row kk e, sz, some (.lit (.int k1 lo)), none)) (hr : σ.h.rowAt kk = some (l.map c)) (hs : ∀ y, (c y).length = sz)
    (hb : (decide (0 ≤ lo) && (decide (lo ≤ (l.length : Int)) && decide ((l.length : Int) ≤ (l.length : Int)))) = true) : stepAt G ops k σ = some (.val (.part kk e lo.toNat ((l.length : Int).toNat - lo.toNat))) := by
  simp only [Bool.and_eq_true, decide_eq_true_eq] at hb
  exact st_slR h hr hs (by simp only [loN, pidx_of hb.1]) (by simp only [hiN]; congr 1) ⟨by omega, by omega⟩
theorem st_slPH {α : Type} {c : α → List PV} {l : List α} {kk : Key} {e sz : Nat} {k2 : IntKind} {hi : Int} (h : slAt G ops k σ = some (.row kk e, sz, none, some (.lit (.int k2 hi)))) (hr : σ.h.rowAt kk = some (l.map c)) (hs : ∀ y, (c y).length = sz)
    (hb : (decide ((0 : Int) ≤ 0) && (decide (0 ≤ hi) && decide (hi ≤ (l.length : Int)))) = true) : stepAt G ops k σ = some (.val (.part kk e (0 : Int).toNat (hi.toNat - (0 : Int).toNat))) := by
  simp only [Bool.and_eq_true, decide_eq_true_eq] at hb
  exact st_slR h hr hs (by simp only [loN]; rfl) (by simp only [hiN, pidx_of hb.2.1]) ⟨by simp, by omega⟩
def clrAt (G : Prg) (ops : Array Oper) (k : Nat) (σ : St) : Option (PV × Nat × List PV) := match onAt ops k σ with
  | some o => (match o.op with
    | .call { callee := .builtin .clear, args := args, argTypes := tys } => (match args.toList, tys.toList with
      | [d], [t] => (match tElem G.P t with
        | some e => (match tZero G.P e with
          | some z => if (tRow G.P e && z.cells.toList.all Value.oneCell') = true then some (pev σ d, e, z.cells.toList.map ofE) else none
          | none => none)
        | none => none)
      | _, _ => none)
    | _ => none)
  | none => none
theorem at_clear {α : Type} {c : α → List PV} {l : List α} {z : α} {d : PV} {e g lo n : Nat} {zs : List PV} (h : clrAt G ops k σ = some (d, e, zs)) (hg : σ.h.get g = some (.row e [] (l.map c))) (hd : cdstL l.length g d = some (lo, n)) (hfit : lo + n ≤ l.length) (hz : zs = c z) :
    DoesAt G ops k σ ⟨[], [(g, .row e [] ((cpy l lo (List.replicate n z)).map c))], .tup []⟩ := by
  unfold clrAt at h
  split at h
  case h_2 => cases h
  rename_i o ho
  split at h
  case h_2 => cases h
  rename_i args tys hop
  split at h
  case h_2 => cases h
  rename_i d' t hargs htys
  split at h
  case h_2 => cases h
  rename_i e' he
  split at h
  case h_2 => cases h
  rename_i z' hz'
  split at h
  case isFalse => cases h
  rename_i hc
  simp only [Bool.and_eq_true] at hc
  simp only [Option.some.injEq, Prod.mk.injEq] at h
  obtain ⟨rfl, rfl, h3⟩ := h
  obtain ⟨q1, q2⟩ := onAt_spec ho
  obtain rfl : args = #[d'] := Array.toList_inj.1 hargs
  obtain rfl : tys = #[t] := Array.toList_inj.1 htys
  refine ⟨o, q1, q2, fun hi hdd => ?_⟩
  have := clear_ok (n := n) (lo := lo) hop he hz' hc.1 hc.2 hg (by rw [cdst_of hg (List.length_map _)]; exact hd) (by simpa using hfit) hi hdd
  rw [h3, hz, ← List.map_replicate, ← cpy_map] at this
  exact this
def cutAt (G : Prg) (ops : Array Oper) (k : Nat) (σ : St) : Option (PV × Nat × PV) := match onAt ops k σ with
  | some o => (match o.op with
    | .slice t x none (some y) none => (match tElem G.P t with
      | some e => if (G.P.info? e).isSome = true then some (pev σ x, e, pev σ y) else none
      | none => none)
    | _ => none)
  | none => none
theorem at_cut {α : Type} {c : α → List PV} {l l' : List α} {e g : Nat} {J : List (Nat × Nat)} {k2 : IntKind} {hi : Int} (h : cutAt G ops k σ = some (.row (.top g) e, e, .lit (.int k2 hi))) (hg : σ.h.get g = some (.row e J (l.map c))) (hp : Nat.blt g PIN = true) (hl : slc l 0 hi = some l') :
    DoesAt G ops k σ ⟨[ofTag g], [(g, .row e J (l'.map c))], .row (.top g) e⟩ := by
  obtain ⟨⟨h1, h2, h3⟩, rfl⟩ := slcS hl
  unfold cutAt at h
  split at h
  case h_2 => cases h
  rename_i o ho
  split at h
  case h_2 => cases h
  rename_i t x y hop
  split at h
  case h_2 => cases h
  rename_i e' he
  split at h
  case isFalse => cases h
  rename_i hinf
  simp only [Option.some.injEq, Prod.mk.injEq] at h
  obtain ⟨hx, rfl, hy⟩ := h
  obtain ⟨q1, q2⟩ := onAt_spec ho
  refine ⟨o, q1, q2, fun hi' hdd => ?_⟩
  have := cut_ok (n := hi.toNat) hop he hinf (by simpa using hp) hx (by rw [hy]; exact pidx_of h2) hg (by simp; omega) hi' hdd
  rw [← List.map_take] at this
  simpa using this
theorem idx_part {α : Type} {l : List α} {lo n : Nat} {i : Int} {x : α} (h : idx ((l.drop lo).take n) i = some x) : l[lo + i.toNat]? = some x := by
  obtain ⟨_, h1⟩ := idxS h
  rw [List.getElem?_take] at h1
  split at h1
  · rwa [List.getElem?_drop] at h1
  · cases h1
theorem st_lenP {kk : Key} {e lo n : Nat} (h : lenAt G ops k σ = some (.part kk e lo n)) : stepAt G ops k σ = some (.val (.lit (.int .i64 n))) := by
  unfold lenAt at h
  split at h
  case h_2 => cases h
  rename_i o ho
  split at h
  case h_2 => cases h
  rename_i cl hop
  split at h
  case h_2 => cases h
  rename_i hcal
  split at h
  case h_2 => cases h
  rename_i a t hargs hty
  split at h
  case h_2 => cases h
  rename_i e he
  injection h with h
  refine step_of ho (by rw [hop]; simp only [pcallee, hcal]) ?_
  rw [hop]
  simp only [peop, pcallB, hcal, hargs, hty, he, h, plen]
  rfl
end
end Go.VI

/- Appends and cuts of an own row, the row then bearing another name: for regions that draw their order. -/
set_option linter.unusedVariables false
set_option linter.unusedSimpArgs false
set_option linter.unusedSectionVars false
namespace Go.VI
open Go.RowKit

section
variable {P : Program} {E : Ent} {S0 : Nat → Prop} {N : Nat} {σ : St} {a : Act} {w : World} {c : Ctx}
/-- An operation that turns the row g alone: what it yields, and what is said of the world behind it. -/
def DoesI (P : Program) (E : Ent) (o : Oper) (a : Act) (w : World) (c : Ctx) (g e : Nat) (ob : HO) : Prop :=
  ∃ (v : Value) (w' : World) (c' : Ctx), (execOp a.eval o).run P w = .ok (.value v) w' ∧ E.Fr w' ∧ c'.Ok E.M w' ∧ Same c.S w w' ∧ (∀ b, c'.S b ↔ c.S b) ∧ (∀ k, k.tag ≠ g → Agree c c' k) ∧
    (∀ k, c.D k → k.tag ≠ g → w'.heap[c.τ k]? = w.heap[c.τ k]? ∧ c'.D k) ∧ HRep P w' c' g ob ∧ RV P w' c' (.row (.top g) e) v
theorem append_do {o : Oper} {t e g : Nat} {s x : Operand} {es es2 : List (List PV)} (ho : o.op = .call { callee := .builtin .append, args := #[s, x], argTypes := #[t, t] }) (ht : tElem P t = some e) (hrow : tRow P e = true) (hs : pev σ s = .row (.top g) e) (hgR : σ.hget g = some (.row e [] es)) (hpin : g < PIN)
    (hel : (pev σ x).elems σ.h = some es2) (hflat : (pev σ x).flat σ.h = true) (hk2 : ∀ l ∈ es2, l.length = tSize P e) (hlim : es.length + es2.length ≤ LIM) (h : Inv P E S0 N σ a w c) : DoesI P E o a w c g e (.row e [] (es ++ es2)) := by
  have rs := h.ev s
  have rx := h.ev x
  rw [hs] at rs
  obtain ⟨i, z, hi, hz, hsz, hby, hzs, hsize⟩ := tRow_some hrow
  have hu := tElem_some ht
  have hexec : ∀ v' w', (Builtin.append_ #[t, t] o.type #[a.eval s, a.eval x]).run P w = .ok v' w' → (execOp a.eval o).run P w = .ok (.value v') w' := by
    intro v' w' hrun
    unfold execOp
    simp only [ho, resolve, invoke, builtin, Sem.run_bind, Sem.run_pure, Result.andThen_ok, List.map_toArray, List.map_cons, List.map_nil, hrun]
  have hVs : a.eval s = c.hd (.top g) := by
    generalize a.eval s = X at rs
    cases rs with
    | free _ _ hf => cases hf
    | row => rfl
  rw [hVs] at hexec
  obtain ⟨A, cc, news, hX, hnl, hA, hcell, h1, hrf⟩ := elems_rep h.objs rx hel hflat hk2 (by omega)
  rw [hX] at hexec
  have hA' : es2.length ≠ 0 → ∃ ad, A = some ad := fun hne => hA (by rintro rfl; simp at hne)
  obtain ⟨xs, rr⟩ := h.objs g _ hgR
  have hRF : ∀ i j pv, getE es i j = some pv → RF w c.S pv (xs.getD (i * tSize P e + j) undef) := fun i j pv hg => rr.rep i j pv hg
  obtain ⟨v', w', hrun, hown', hgrow, hblk⟩ := run_append_any (P := P) 0 t o.type e i z (tSize P e) hu hi hz hsize hby hzs rr.pos (c.hd (.top g)) es.length xs rr.own A es2.length cc news hnl hA' hcell h1 hlim (Nat.zero_le _)
  have hVb : ∀ b, (c.hd (.top g)).ownBlock = some b → E.M b ∧ ¬ c.S b ∧ ∀ k', k'.tag ≠ g → c.D k' → c.τ k' ≠ b := fun b hb' => by
    obtain ⟨q1, q2⟩ := rr.blk b hb'
    have := h.ok.hD _ q1
    rw [q2] at this
    exact ⟨this.1, this.2.2, fun k' hne hg' e => hne (by rw [h.ok.inj _ _ hg' q1 (by rw [e, q2])]; rfl)⟩
  have hsame : ∀ b, b < w.heap.size → (c.hd (.top g)).ownBlock ≠ some b → w'.heap[b]? = w.heap[b]? := fun b hb' hne => hgrow.block b hb' (Ne.symm hne)
  have hS : Same c.S w w' := fun b hS => hsame b (h.ok.hS b hS) fun e => (hVb b e).2.1 hS
  have below : E.Fr w' := ⟨hgrow.os.trans h.below.os, hgrow.tape.trans h.below.tape, hgrow.output.trans h.below.output, Nat.le_trans h.below.size hgrow.size, fun k hk' hm => (hsame k (Nat.lt_of_lt_of_le hk' h.below.size) fun e => hm (hVb k e).1).trans (h.below.block k hk' hm)⟩
  -- the block of the new row
  let b := (v'.ownBlock).getD 0
  let c' := c.lay g b v' e (v'.ownBlock.isSome = true)
  have hbb : v'.ownBlock.isSome = true → E.M b ∧ b < w'.heap.size ∧ ¬ c.S b ∧ ∀ k', k'.tag ≠ g → c.D k' → c.τ k' ≠ b := fun hs => by
    obtain ⟨b', hb'⟩ := Option.isSome_iff_exists.1 hs
    have hbe : b = b' := by simp [b, hb']
    rw [hbe]
    have hlt : b' < w'.heap.size := (hown'.lt b' hb').2
    rcases hblk with hq | hq
    · have := hVb b' (by rw [← hq, hb'])
      exact ⟨this.1, hlt, this.2.1, this.2.2⟩
    · rw [hb'] at hq
      injection hq with hq
      subst hq
      exact ⟨h.below.mine (Nat.le_refl _), hlt, fun hS => by have := h.ok.hS _ hS; omega, fun k' _ hg' e => by have := (h.ok.hD k' hg').2.1; omega⟩
  have hok : c'.Ok E.M w' := lay_ok h.ok hgrow.size (fun q => ⟨(hbb q).1, (hbb q).2.1, (hbb q).2.2.1⟩) fun q => (hbb q).2.2.2
  have hrep : HRep P w' c' g (.row e [] (es ++ es2)) := by
    refine ⟨xs ++ news, lay_top.2.2.1, rr.pos, fun l hl => (List.mem_append.1 hl).elim (rr.len l) (hk2 l), by rw [lay_top.2.1, List.length_append]; exact hown', fun b' hb' => ?_, fun i j pv hg => ?_, fun i j pv hg => ?_⟩
    · rw [lay_top.2.1] at hb'
      exact ⟨lay_top.2.2.2.2 (by rw [hb']; rfl), by rw [lay_top.1]; simp [b, hb']⟩
    · rcases append_get rr.len hk2 rr.own.1 (news := news) hg with ⟨q1, q2⟩ | ⟨i', _, q1, q2⟩
      · rw [q2]; exact rr.one i j pv q1
      · rw [q2]
        have hlt := getE_lt hk2 q1
        have := idx_lt hlt.1 hlt.2
        exact h1 _ (by rw [List.getD_eq_getElem?_getD, List.getElem?_eq_getElem (by omega)]; exact List.getElem_mem _)
    · show RF w' c.S pv _
      rcases append_get rr.len hk2 rr.own.1 (news := news) hg with ⟨q1, q2⟩ | ⟨i', _, q1, q2⟩
      · rw [q2]; exact (hRF i j pv q1).same hS fun _ h => h
      · rw [q2]; exact (hrf i' j pv q1).same hS fun _ h => h
  have hrv : RV P w' c' (.row (.top g) e) v' := by
    obtain ⟨xs', r'⟩ := hrep
    have := RV.row (P := P) (w := w') (c := c') (.top g) e r'.ty r'.hd_one
    rwa [show c'.hd (.top g) = v' from lay_top.2.1] at this
  exact ⟨v', w', c', hexec _ _ hrun, below, hok, hS, fun _ => Iff.rfl, fun k hk => lay_agree hk, fun k hD hx => ⟨hsame _ (h.ok.hD k hD).2.1 fun e => (hVb _ e).2.2 k hx hD rfl, (lay_D hx).2 hD⟩, hrep, hrv⟩
theorem cut_do {o : Oper} {t e g n : Nat} {x y : Operand} {J : List (Nat × Nat)} {es : List (List PV)} (ho : o.op = .slice t x none (some y) none) (ht : tElem P t = some e) (hinfo : (P.info? e).isSome = true) (hg : g < PIN)
    (hx : pev σ x = .row (.top g) e) (hy : pidx (pev σ y) = some n) (hr : σ.hget g = some (.row e J es)) (hn : n ≤ es.length) (h : Inv P E S0 N σ a w c) (hd : ∀ k, o.dst = some k → k < N) :
    DoesI P E o a w c g e (.row e J (es.take n)) := by
  have rx := h.ev x
  rw [hx] at rx
  obtain ⟨k, ey⟩ := int_of_pidx (h.ev y) hy
  have hX : a.eval x = c.hd (.top g) := by
    generalize a.eval x = X at rx
    cases rx with
    | free _ _ hf => cases hf
    | row => rfl
  obtain ⟨xs, r⟩ := h.objs g _ hr
  have hu := tElem_some ht
  have hlen : (es.take n).length = n := by simp; omega
  -- the run
  have run : ∀ (A : Option Addr) (m cc : Nat), n ≤ m → m ≤ cc → (Instr.sliceAt t (.slice A m cc) none (some (.int k n)) none).run P w = .ok (.slice (if cc = 0 then A else A.map (·.add (0 * tSize P e))) (n - 0) (cc - 0)) w := by
    intro A m cc h2 h3
    have bnd : (Instr.sliceBounds true m cc none (some (.int k n)) none).run P w = .ok (0, n, cc) w := by
      have := run_sliceBound (P := P) (w := w) k (n : Int) cc .sliceAcap (by omega) (by omega)
      simp [Instr.sliceBounds, this]
    simp only [Instr.sliceAt, Instr.slice, Sem.run_bind, run_underlying hu, Result.andThen_ok, bnd, run_sizeOf (Option.isSome_iff_exists.1 hinfo), Sem.run_pure]
  have hexec : ∀ v, (Instr.sliceAt t (a.eval x) none (some (.int k n)) none).run P w = .ok v w → (execOp a.eval o).run P w = .ok (.value v) w := by
    intro v hrun
    unfold execOp
    simp only [ho, Sem.run_bind, Sem.run_pure, Option.map_none, Option.map_some, ey, hrun, Result.andThen_ok]
  have fin : ∀ v', (execOp a.eval o).run P w = .ok (.value v') w → w.ownsRow 0 e (tSize P e) v' n (xs.take (n * tSize P e)) → (∀ b, v'.ownBlock = some b → c.D (.top g) ∧ c.τ (.top g) = b) →
      DoesI P E o a w c g e (.row e J (es.take n)) := by
    intro v' hrun hown hblk
    let c' : Ctx := ⟨c.S, c.τ, fun k => if k = .top g then v' else c.hd k, c.ty, c.D⟩
    have hhd : c'.hd (.top g) = v' := by simp [c']
    have hag : ∀ k, k ≠ .top g → Agree c c' k := fun k hk => ⟨rfl, by simp [c', hk], rfl⟩
    have hxs : ∀ i j pv, getE (es.take n) i j = some pv → (xs.take (n * tSize P e)).getD (i * tSize P e + j) undef = xs.getD (i * tSize P e + j) undef := by
      intro i j pv hg
      obtain ⟨q1, q2⟩ := take_getE hg
      rw [take_getD _ _ _ (idx_lt q1 (getE_lt r.len q2).2)]
    have hrep : HRep P w c' g (.row e J (es.take n)) := by
      refine ⟨xs.take (n * tSize P e), r.ty, r.pos, fun l hl => r.len l (List.mem_of_mem_take hl), by rw [hhd, hlen]; exact hown, fun b hb => by rw [hhd] at hb; exact hblk b hb, fun i j pv hg => by rw [hxs i j pv hg]; exact r.one i j pv (take_getE hg).2, fun i j pv hgE => ?_⟩
      rw [hxs i j pv hgE]
      have hc := r.rep i j pv (take_getE hgE).2
      unfold CellRep at hc ⊢
      split at hc
      · exact hc
      · obtain ⟨h1, es', xs', h2, r'⟩ := hc
        exact ⟨h1.trans (hag (.sub g i j) (by simp)).2.1.symm, es', xs', h2, RowRep.retag (c := c) (c' := c') rfl (hag (.sub g i j) (by simp)).2.1 rfl (fun h => h) (fun _ _ _ _ _ q => q) r'⟩
    have hrv : RV P w c' (.row (.top g) e) v' := by
      obtain ⟨xs', r'⟩ := hrep
      have := RV.row (P := P) (w := w) (c := c') (.top g) e r'.ty r'.hd_one
      rwa [hhd] at this
    exact ⟨v', w, c', hrun, h.below, ⟨h.ok.hS, h.ok.hD, h.ok.inj⟩, fun _ _ => rfl, fun _ => Iff.rfl, fun k hk => hag k (by rintro rfl; exact hk rfl), fun k hD _ => ⟨rfl, hD⟩, hrep, hrv⟩
  rcases r.own.2 with ⟨h0, hz⟩ | ⟨g2, cap, cur, h0, hb2, hg2, hnc, hcm, hcs, htake⟩
  · have hn0 : n = 0 := by omega
    subst hn0
    have hrun := hexec _ (by rw [hX, h0]; exact run none 0 0 (Nat.le_refl _) (Nat.le_refl _))
    simp only [if_true, Nat.sub_self] at hrun
    exact fin _ hrun (by simpa using World.ownsRow_nil w 0 e (tSize P e)) fun b hb => by simp [Value.ownBlock] at hb
  · have hrun := hexec _ (by rw [hX, h0]; exact run (some ⟨g2, 0, none⟩) es.length cap hn hnc)
    have hadd : (if cap = 0 then (some ⟨g2, 0, none⟩ : Option Addr) else (some ⟨g2, 0, none⟩ : Option Addr).map (·.add (0 * tSize P e))) = some ⟨g2, 0, none⟩ := by
      split <;> simp [add_lit]
    rw [hadd] at hrun
    simp only [Nat.sub_zero] at hrun
    refine fin _ hrun ⟨?_, .inr ⟨g2, cap, cur, rfl, hb2, hg2, by omega, hcm, hcs, ?_⟩⟩ fun b hb => r.blk b (by rw [h0]; exact hb)
    · rw [List.length_take, r.own.1]
      have := Nat.mul_le_mul_right (tSize P e) hn
      omega
    · rw [← htake, List.take_take]
      have := Nat.mul_le_mul_right (tSize P e) hn
      congr 1
      omega

/-! ### another name -/
/-- The row's name is d from here on. -/
theorem renamed {o : Oper} {g d e : Nat} {ob : HO} (hgd : d ≠ g) (hdp : d < PIN) (hgp : g < PIN) (h : Inv P E S0 N σ a w c) (hcl : Clean [d] σ) (hd : ∀ k, o.dst = some k → k < N) {eR : Nat} {J : List (Nat × Nat)} {es : List (List PV)} (hob : ob = .row eR J es) (hdo : DoesI P E o a w c g e ob)
    (next : Act → World → Prop) (Q : Exit → Act → World → Prop) (hn : ∀ a' w' c', Inv P E S0 N (σ.act o.dst ⟨[g], [(d, ob)], .row (.top d) e⟩) a' w' c' → next a' w') : o.wp P a w next Q := by
  obtain ⟨v, w', c1, hrun, below, hok, hS, hSS, hag, hkeep, hrep, hrv⟩ := hdo
  let c2 : Ctx := ⟨c1.S, fun k => if k.tag = d then c1.τ (k.retag g) else if k.tag = g then c.τ k else c1.τ k, fun k => if k.tag = d then c1.hd (k.retag g) else if k.tag = g then c.hd k else c1.hd k,
    fun k => if k.tag = d then c1.ty (k.retag g) else if k.tag = g then c.ty k else c1.ty k, fun k => if k.tag = d then c1.D (k.retag g) else if k.tag = g then False else c1.D k⟩
  have atd : ∀ k : Key, k.tag = d → c2.τ k = c1.τ (k.retag g) ∧ c2.hd k = c1.hd (k.retag g) ∧ c2.ty k = c1.ty (k.retag g) ∧ (c2.D k ↔ c1.D (k.retag g)) := fun k hk => by simp [c2, hk]
  have off : ∀ k : Key, k.tag ≠ d → Agree c c2 k := fun k hk => by
    by_cases hg : k.tag = g
    · simp [Agree, c2, hg, Ne.symm hgd]
    · obtain ⟨q1, q2, q3⟩ := hag k hg
      simp [Agree, c2, hk, hg, q1, q2, q3]
  have Dof : ∀ k : Key, k.tag ≠ d → (c2.D k ↔ k.tag ≠ g ∧ c1.D k) := fun k hk => by
    by_cases hg : k.tag = g
    · simp [c2, hg, Ne.symm hgd]
    · simp [c2, hk, hg]
  have phi : ∀ k, c2.D k → ∃ k0, c1.D k0 ∧ c2.τ k = c1.τ k0 ∧ ((k.tag = d ∧ k0 = k.retag g) ∨ (k.tag ≠ d ∧ k.tag ≠ g ∧ k0 = k)) := fun k hk => by
    by_cases hkd : k.tag = d
    · obtain ⟨q1, _, _, q4⟩ := atd k hkd
      exact ⟨_, q4.1 hk, q1, .inl ⟨hkd, rfl⟩⟩
    · obtain ⟨q1, q2⟩ := (Dof k hkd).1 hk
      exact ⟨k, q2, by simp [c2, hkd, q1], .inr ⟨hkd, q1, rfl⟩⟩
  have ok2 : c2.Ok E.M w' := by
    refine ⟨hok.hS, fun k hk => ?_, fun k k' hk hk' he => ?_⟩
    · obtain ⟨k0, q1, q2, _⟩ := phi k hk
      rw [q2]; exact hok.hD k0 q1
    · obtain ⟨k0, q1, q2, q3⟩ := phi k hk
      obtain ⟨k1, p1, p2, p3⟩ := phi k' hk'
      rw [q2, p2] at he
      have e0 := hok.inj _ _ q1 p1 he
      rcases q3 with ⟨a1, rfl⟩ | ⟨a1, a2, rfl⟩ <;> rcases p3 with ⟨b1, rfl⟩ | ⟨b1, b2, rfl⟩
      · exact retag_inj e0 (by rw [a1, b1])
      · exact absurd (by rw [← e0, retag_tag]) b2
      · exact absurd (by rw [e0, retag_tag]) a2
      · exact e0
  have hS2 : ∀ b, c.S b → c2.S b := fun b hb => (hSS b).2 hb
  have av : ∀ pv : PV, Avoid [d] pv = true → pv.has (ofTag d) = false := fun pv hpv => by simpa [Avoid] using hpv
  have rv2 : RV P w' c2 (.row (.top d) e) v := by
    generalize hX : PV.row (.top g) e = X at hrv
    cases hrv with
    | free _ _ hf => subst hX; cases hf
    | row k e' he h1 =>
      injection hX with q1 q2
      subst q1 q2
      obtain ⟨q1, q2, q3, _⟩ := atd (.top d) rfl
      have := RV.row (P := P) (w := w') (c := c2) (.top d) e (q3.trans he) (by rw [q2]; exact h1)
      rwa [q2] at this
    | _ => cases hX
  have hrepd : HRep P w' c2 d ob := by
    subst hob
    obtain ⟨xs, r⟩ := hrep
    obtain ⟨q1, q2, q3, q4⟩ := atd (.top d) rfl
    refine ⟨xs, r.retag (k' := .top d) q1 q2 q3 q4.2 fun i j pv v hgE hc => ?_⟩
    unfold CellRep at hc ⊢
    split at hc
    · exact hc
    · obtain ⟨h1, es', xs', rfl, r'⟩ := hc
      obtain ⟨p1, p2, p3, p4⟩ := atd (.sub d i j) rfl
      exact ⟨h1.trans p2.symm, es', xs', rfl, r'.retag (k' := .sub d i j) p1 p2 p3 p4.2 fun _ _ _ _ _ q => q⟩
  have hinv : Inv P E S0 N ⟨σ.s, [(d, ob)] ++ σ.h.delL [g]⟩ a w' c2 := by
    refine ⟨below, ok2, fun b hb => hS2 b (h.sub b hb), fun b hb => h.sup b ((hSS b).1 hb), fun i => ?_, fun g' o' hg' => ?_, fun k hk => ?_, h.small, h.size, h.defers⟩
    · exact (h.slots i).keep (p := ofTag d) hS hS2 (fun k hk => off k (ofTag_ff.1 hk)) (av _ (hcl.1 i))
    · have e1 : (⟨σ.s, [(d, ob)] ++ σ.h.delL [g]⟩ : St).hget g' = HP.get ([(d, ob)] ++ σ.h.delL [g]) g' := rfl
      rw [e1, append_hget, delL_get] at hg'
      by_cases hd' : g' = d
      · subst hd'
        simp only [HP.get, Nat.beq_refl, if_true, Option.some.injEq] at hg'
        subst hg'; exact hrepd
      · simp only [HP.get, beq_ff hd', Bool.false_eq_true, if_false, List.mem_singleton] at hg'
        split at hg'
        · cases hg'
        rename_i hne
        have r := h.objs g' o' hg'
        have hk : ∀ k : Key, k.tag = g' → ofTag d k = false := fun k hk => ofTag_ff.2 (by rw [hk]; exact hd')
        have hD : ∀ k : Key, k.tag = g' → c.D k → w'.heap[c.τ k]? = w.heap[c.τ k]? ∧ c2.D k := fun k hk hDk => by
          obtain ⟨q1, q2⟩ := hkeep k hDk (by rw [hk]; exact hne)
          exact ⟨q1, (Dof k (by rw [hk]; exact hd')).2 ⟨by rw [hk]; exact hne, q2⟩⟩
        have := r.keepKill (c' := c2) (p := ofTag d) hS hS2 (fun k hk => off k (ofTag_ff.1 hk)) hk hD
        have e2 : o'.kill (ofTag d) = o' := by
          have := (hcl.2 g' o' hg').2
          cases o' with
          | box cs =>
            simp only [HO.kill]
            congr 1
            have : ∀ l : List PV, l.all (Avoid [d]) = true → PV.killL (ofTag d) l = l := by
              intro l
              induction l with
              | nil => intro _; rfl
              | cons x l ih => intro hl; simp only [List.all_cons, Bool.and_eq_true] at hl; simp only [PV.killL, kill_free _ x (av x hl.1), ih hl.2]
            exact this cs (by assumption)
          | _ => rfl
        rwa [e2] at this
    · obtain ⟨q1, q2, q3⟩ := h.pin k hk
      obtain ⟨p1, p2, p3⟩ := off (.top k) (show k ≠ d by omega)
      exact ⟨p1.trans q1, p2.trans q2, p3.trans q3⟩
  unfold Oper.wp
  rw [hrun, Oper.upon_value]
  exact hn _ _ c2 (hinv.put o.dst hd rv2)
end
section
variable {G : Prg} {ops : Array Oper} {k : Nat} {σ : St} {K : St → Prop}
/-- append, where the order is drawn: the row's name is then g2 -/
theorem evd_app {α : Type} {c : α → List PV} {D : DD} {m : Nat} {l l2 l' : List α} {x : PV} {g g2 e sz d : Nat} (hm : Nat.ble m k = false) (h : appAt G ops k σ = some (.row (.top g) e, x, e, sz, d)) (ha : σ.h.get g = some (.row e [] (l.map c))) (hx : x.elems σ.h = some (l2.map c)) (hf : x.flat σ.h = true) (hs : ∀ y, (c y).length = sz)
    (hl : app l l2 = some l') (hg : (Nat.blt g PIN && Nat.blt g2 PIN && !Nat.beq g2 g) = true) (hF : inL [g2] (D.F k) = true) (hT : inL [g, g2] (D.T k) = true) (hav : avB ops k (D.av k) σ = true)
    (hfv : (Avoid (D.fv k) (.row (.top g2) e) && !((D.fv k).any fun y => Nat.beq y g2) && (HO.row e [] (l'.map c)).avoid (D.fv k)) = true)
    (next : EVD G ops D m (k + 1) (setO ⟨σ.s, (g2, .row e [] (l'.map c)) :: σ.h.delL [g]⟩ (dstAt ops k) (.row (.top g2) e)) K) : EVD G ops D m k σ K := by
  obtain ⟨h1, rfl⟩ := appS hl
  simp only [Bool.and_eq_true, Bool.not_eq_true'] at hg
  obtain ⟨⟨hgp, hg2p⟩, hne⟩ := hg
  have hne' : g2 ≠ g := fun q => by rw [q, Nat.beq_refl] at hne; cases hne
  unfold appAt at h
  split at h
  case h_2 => cases h
  rename_i o ho
  split at h
  case h_2 => cases h
  rename_i cl hop
  split at h
  case h_2 => cases h
  rename_i hcal
  split at h
  case h_2 => cases h
  rename_i a' x' t t' hargs hty
  split at h
  case isFalse => cases h
  rename_i ht
  split at h
  case h_2 => cases h
  rename_i e' he
  split at h
  case isFalse => cases h
  rename_i hrow
  simp only [Option.some.injEq, Prod.mk.injEq] at h
  obtain ⟨hpa, rfl, rfl, rfl, rfl⟩ := h
  subst ht
  obtain ⟨q1, q2⟩ := onAt_spec ho
  have hop' : o.op = .call { callee := .builtin .append, args := #[a', x'], argTypes := #[t, t] } := by
    rw [hop]
    obtain ⟨callee, args, argTypes⟩ := cl
    simp only at hcal hargs hty
    subst hcal
    rw [show args = #[a', x'] from Array.toList_inj.1 hargs, show argTypes = #[t, t] from Array.toList_inj.1 hty]
  rw [dstAt_eq q1] at next
  have hds : DStep G.P ops o (D.rd k) (D.F k) σ ⟨[g], [(g2, .row e' [] ((l ++ l2).map c))], .row (.top g2) e'⟩ := fun T τ lc => by
    obtain ⟨h1', h2'⟩ := local_pev lc
    have h2' := h2' (by first | rw [hop']; rfl | rw [hop]; rfl)
    have ma : (a' : Operand) ∈ o.op.operands.toList := by rw [hop']; simp [Op.operands, Call.operands]
    have mx : (x' : Operand) ∈ o.op.operands.toList := by rw [hop']; simp [Op.operands, Call.operands]
    have hgT : g ∉ T := fun hm => by
      have := List.all_eq_true.1 (h2' _ ma) g hm
      rw [hpa] at this
      simp [PV.has, ofTag, Key.tag] at this
    have hgτ : τ.hget g = some (.row e' [] (l.map c)) := (lc.heap g hgT).symm.trans ha
    refine .inr ⟨by rw [local_guard lc]; exact q2, fun E S0 N a w cx hi hcl hdd next Q hn => ?_⟩
    have hcl2 : Clean [g2] τ := by
      have hgF := inL_spec hF g2 (by simp)
      have sub : ∀ v : PV, Avoid (D.F k) v = true → Avoid [g2] v = true := fun v hv => by
        have := List.all_eq_true.1 hv g2 hgF
        simp [Avoid] at this ⊢
        exact this
      refine ⟨fun i => sub _ (hcl.1 i), fun g' o' hg' => ?_⟩
      obtain ⟨p1, p2⟩ := hcl.2 g' o' hg'
      refine ⟨fun hm => p1 (by simp at hm; subst hm; exact hgF), ?_⟩
      cases o' with
      | box cs =>
        simp only [HO.avoid] at p2 ⊢
        exact List.all_eq_true.2 fun v hv => sub v (List.all_eq_true.1 p2 v hv)
      | _ => rfl
    have hdo := append_do (E := E) (S0 := S0) (N := N) (a := a) (w := w) (c := cx) hop' he hrow (by rw [h1' _ ma]; exact hpa) hgτ (by simpa using hgp) (by rw [h1' _ mx, ← elems_ag lc.heap (h2' _ mx)]; exact hx) (by rw [h1' _ mx, ← flat_ag lc.heap (h2' _ mx)]; exact hf) (fun r hr => by
      obtain ⟨y, _, rfl⟩ := List.mem_map.1 hr
      exact hs y) (by simpa using h1) hi
    rw [← List.map_append] at hdo
    exact renamed hne' (by simpa using hg2p) (by simpa using hgp) hi hcl2 hdd rfl hdo next Q hn
  simp only [Bool.and_eq_true] at hfv
  refine evd_one hm q1 ⟨[g], [(g2, _)], _⟩ hds (avB_spec q1 hav) hT (by simp only [List.all_cons, List.all_nil, Bool.and_true, Bool.and_eq_true]; exact ⟨hfv.1.1, hfv.1.2, hfv.2⟩) ?_
  exact next
/-- cutting, where the order is drawn -/
theorem evd_cut {α : Type} {c : α → List PV} {D : DD} {m : Nat} {l l' : List α} {e g g2 : Nat} {J : List (Nat × Nat)} {k2 : IntKind} {hi : Int} (hm : Nat.ble m k = false) (h : cutAt G ops k σ = some (.row (.top g) e, e, .lit (.int k2 hi))) (hgr : σ.h.get g = some (.row e J (l.map c))) (hl : slc l 0 hi = some l')
    (hg : (Nat.blt g PIN && Nat.blt g2 PIN && !Nat.beq g2 g) = true) (hF : inL [g2] (D.F k) = true) (hT : inL [g, g2] (D.T k) = true) (hav : avB ops k (D.av k) σ = true)
    (hfv : (Avoid (D.fv k) (.row (.top g2) e) && !((D.fv k).any fun y => Nat.beq y g2) && (HO.row e J (l'.map c)).avoid (D.fv k)) = true)
    (next : EVD G ops D m (k + 1) (setO ⟨σ.s, (g2, .row e J (l'.map c)) :: σ.h.delL [g]⟩ (dstAt ops k) (.row (.top g2) e)) K) : EVD G ops D m k σ K := by
  obtain ⟨⟨h1, h2, h3⟩, rfl⟩ := slcS hl
  simp only [Bool.and_eq_true, Bool.not_eq_true'] at hg
  obtain ⟨⟨hgp, hg2p⟩, hne⟩ := hg
  have hne' : g2 ≠ g := fun q => by rw [q, Nat.beq_refl] at hne; cases hne
  unfold cutAt at h
  split at h
  case h_2 => cases h
  rename_i o ho
  split at h
  case h_2 => cases h
  rename_i t x y hop
  split at h
  case h_2 => cases h
  rename_i e' he
  split at h
  case isFalse => cases h
  rename_i hinf
  simp only [Option.some.injEq, Prod.mk.injEq] at h
  obtain ⟨hx, rfl, hy⟩ := h
  obtain ⟨q1, q2⟩ := onAt_spec ho
  rw [dstAt_eq q1] at next
  have hds : DStep G.P ops o (D.rd k) (D.F k) σ ⟨[g], [(g2, .row e' J (((l.take hi.toNat).drop (0 : Int).toNat).map c))], .row (.top g2) e'⟩ := fun T τ lc => by
    obtain ⟨h1', h2'⟩ := local_pev lc
    have h2' := h2' (by first | rw [hop']; rfl | rw [hop]; rfl)
    have ma : (x : Operand) ∈ o.op.operands.toList := by rw [hop]; simp [Op.operands]
    have my : (y : Operand) ∈ o.op.operands.toList := by rw [hop]; simp [Op.operands]
    have hgT : g ∉ T := fun hm => by
      have := List.all_eq_true.1 (h2' _ ma) g hm
      rw [hx] at this
      simp [PV.has, ofTag, Key.tag] at this
    have hgτ : τ.hget g = some (.row e' J (l.map c)) := (lc.heap g hgT).symm.trans hgr
    refine .inr ⟨by rw [local_guard lc]; exact q2, fun E S0 N a w cx hi' hcl hdd next Q hn => ?_⟩
    have hcl2 : Clean [g2] τ := by
      have hgF := inL_spec hF g2 (by simp)
      have sub : ∀ v : PV, Avoid (D.F k) v = true → Avoid [g2] v = true := fun v hv => by
        have := List.all_eq_true.1 hv g2 hgF
        simp [Avoid] at this ⊢
        exact this
      refine ⟨fun i => sub _ (hcl.1 i), fun g' o' hg' => ?_⟩
      obtain ⟨p1, p2⟩ := hcl.2 g' o' hg'
      refine ⟨fun hm => p1 (by simp at hm; subst hm; exact hgF), ?_⟩
      cases o' with
      | box cs =>
        simp only [HO.avoid] at p2 ⊢
        exact List.all_eq_true.2 fun v hv => sub v (List.all_eq_true.1 p2 v hv)
      | _ => rfl
    have hdo := cut_do (E := E) (S0 := S0) (N := N) (a := a) (w := w) (c := cx) (n := hi.toNat) hop he hinf (by simpa using hgp) (by rw [h1' _ ma]; exact hx) (by rw [h1' _ my, hy]; exact pidx_of h2) hgτ (by simp; omega) hi' hdd
    rw [← List.map_take] at hdo
    have e0 : (l.take hi.toNat).drop (0 : Int).toNat = l.take hi.toNat := by simp
    rw [e0] at hn
    exact renamed hne' (by simpa using hg2p) (by simpa using hgp) hi' hcl2 hdd rfl hdo next Q hn
  simp only [Bool.and_eq_true] at hfv
  refine evd_one hm q1 ⟨[g], [(g2, _)], _⟩ hds (avB_spec q1 hav) hT (by simp only [List.all_cons, List.all_nil, Bool.and_true, Bool.and_eq_true]; exact ⟨hfv.1.1, hfv.1.2, hfv.2⟩) ?_
  exact next
/-- a slice written out to be one's own, where the order is drawn -/
theorem evd_build {D : DD} {m e d : Nat} {es : List (List PV)} (hm : Nat.ble m k = false) (h : bldAt G ops k σ = some (e, es, d)) (hF : inL [d] (D.F k) = true) (hT : inL [d] (D.T k) = true) (hav : avB ops k (D.av k) σ = true)
    (hfv : (Avoid (D.fv k) (.row (.top d) e) && !((D.fv k).any fun y => Nat.beq y d) && (HO.row e [] es).avoid (D.fv k)) = true)
    (next : EVD G ops D m (k + 1) (setO ⟨σ.s, (d, .row e [] es) :: σ.h⟩ (dstAt ops k) (.row (.top d) e)) K) : EVD G ops D m k σ K := by
  unfold bldAt at h
  split at h
  case h_2 => cases h
  rename_i o ho
  split at h
  case h_2 => cases h
  rename_i t len parts hop
  split at h
  case h_2 => cases h
  rename_i e' he
  split at h
  case isFalse => cases h
  rename_i hc
  simp only [Bool.and_eq_true, decide_eq_true_eq] at hc
  obtain ⟨⟨⟨⟨c1, c2⟩, c3⟩, c4⟩, c5⟩ := hc
  simp only [Option.some.injEq, Prod.mk.injEq] at h
  obtain ⟨rfl, rfl, rfl⟩ := h
  obtain ⟨q1, q2⟩ := onAt_spec ho
  rw [dstAt_eq q1] at next
  have hds : DStep G.P ops o (D.rd k) (D.F k) σ ⟨[], [(o.dst.getD 0, .row e' [] (parts.toList.map fun p => (pev σ p.2).cells))], .row (.top (o.dst.getD 0)) e'⟩ := fun T τ lc => by
    obtain ⟨h1', _⟩ := local_pev lc
    have mp : ∀ p ∈ parts.toList, pev τ p.2 = pev σ p.2 := fun p hp => h1' _ (by
      rw [hop]
      simp only [Op.operands]
      exact List.mem_map.2 ⟨p, hp, rfl⟩)
    refine .inr ⟨by rw [local_guard lc]; exact q2, fun E S0 N a w cx hi hcl hdd next Q hn => ?_⟩
    have hall : (parts.toList.all fun p => (pev τ p.2).cells.length == tSize G.P e' && (pev τ p.2).cells.all PV.still) = true := by
      rw [List.all_eq_true] at c5 ⊢
      intro p hp
      rw [mp p hp]; exact c5 p hp
    have := buildO_ok hop he c1 (by simpa using c2) (Nat.le_of_ble_eq_true c3) c4 hall hi hdd
    have e1 : (parts.toList.map fun p => (pev τ p.2).cells) = parts.toList.map fun p => (pev σ p.2).cells := List.map_congr_left fun p hp => by rw [mp p hp]
    rw [e1] at this
    exact this next Q fun a' w' c' hi' => hn a' w' c' (hi'.alike (alike_new (d := 0) (inL_spec hF _ (by simp)) hcl o.dst _ _))
  simp only [Bool.and_eq_true] at hfv
  refine evd_one hm q1 ⟨[], [(o.dst.getD 0, _)], _⟩ hds (avB_spec q1 hav) hT (by simp only [List.all_cons, List.all_nil, Bool.and_true, Bool.and_eq_true]; exact ⟨hfv.1.1, hfv.1.2, hfv.2⟩) ?_
  have ee : σ.act o.dst ⟨[], [(o.dst.getD 0, .row e' [] (parts.toList.map fun p => (pev σ p.2).cells))], .row (.top (o.dst.getD 0)) e'⟩ = setO ⟨σ.s, (o.dst.getD 0, .row e' [] (parts.toList.map fun p => (pev σ p.2).cells)) :: σ.h⟩ o.dst (.row (.top (o.dst.getD 0)) e') := by
    have : ∀ h : HP, h.delL [] = h := by
      intro h
      induction h with
      | nil => rfl
      | cons x h ih => obtain ⟨g, o⟩ := x; simp [HP.delL, ih]
    simp only [St.act, this, List.singleton_append]
  rw [ee]; exact next
end
end Go.VI

/- Loops over lists as folds. -/
set_option linter.unusedVariables false
set_option linter.unusedSimpArgs false
set_option linter.unusedSectionVars false
namespace Go.VI
/-- A loop over a list that gathers: I: what holds before element k. -/
theorem loop_acc {α A S R : Type} (l : List α) (f : A → α → A) (mk : Nat → A → S) (body : S → Option (S ⊕ R)) (r : A → R) (I : Nat → A → Prop) (a0 : A) (h0 : I 0 a0)
    (step : ∀ (k : Nat) (x : α) (a : A), l[k]? = some x → I k a → body (mk k a) = some (.inl (mk (k + 1) (f a x))) ∧ I (k + 1) (f a x)) (fin : ∀ a, I l.length a → body (mk l.length a) = some (.inr (r a))) :
    loopT body (mk 0 a0) = some (r (l.foldl f a0)) ∧ I l.length (l.foldl f a0) := by
  have key : ∀ (n k : Nat) (a : A), k + n = l.length → I k a → loopT body (mk k a) = some (r ((l.drop k).foldl f a)) ∧ I l.length ((l.drop k).foldl f a) := by
    intro n
    induction n with
    | zero =>
      intro k a h hI; obtain rfl : k = l.length := by omega
      rw [List.drop_length]
      exact ⟨loop_out (fin a hI), hI⟩
    | succ n ih =>
      intro k a h hI
      have hk : k < l.length := by omega
      have hx : l[k]? = some l[k] := by simp
      have e : l.drop k = l[k] :: l.drop (k + 1) := List.drop_eq_getElem_cons hk
      obtain ⟨q1, q2⟩ := step k l[k] a hx hI
      rw [e, List.foldl_cons, loop_in q1]
      exact ih (k + 1) _ (by omega) q2
  have := key l.length 0 a0 (by omega) h0
  simpa using this
theorem loop_accT {α A S R : Type} (l : List α) (f : A → α → A) (mk : Nat → A → S) (body : S → Option (S ⊕ R)) (r : A → R) (a0 : A)
    (step : ∀ (k : Nat) (x : α) (a : A), l[k]? = some x → body (mk k a) = some (.inl (mk (k + 1) (f a x)))) (fin : ∀ a, body (mk l.length a) = some (.inr (r a))) :
    loopT body (mk 0 a0) = some (r (l.foldl f a0)) :=
  (loop_acc l f mk body r (fun _ _ => True) a0 trivial (fun k x a h _ => ⟨step k x a h, trivial⟩) (fun a _ => fin a)).1
/-- A loop over a list, known by what holds before each element. -/
theorem loop_rel {α A S R : Type} (l : List α) (mk : Nat → A → S) (body : S → Option (S ⊕ R)) (r : A → R) (I : Nat → A → Prop) (a0 : A) (h0 : I 0 a0)
    (step : ∀ (k : Nat) (x : α) (a : A), l[k]? = some x → I k a → ∃ a', body (mk k a) = some (.inl (mk (k + 1) a')) ∧ I (k + 1) a') (fin : ∀ a, I l.length a → body (mk l.length a) = some (.inr (r a))) :
    ∃ a, loopT body (mk 0 a0) = some (r a) ∧ I l.length a := by
  have key : ∀ (n k : Nat) (a : A), k + n = l.length → I k a → ∃ a', loopT body (mk k a) = some (r a') ∧ I l.length a' := by
    intro n
    induction n with
    | zero =>
      intro k a h hI; obtain rfl : k = l.length := by omega
      exact ⟨a, loop_out (fin a hI), hI⟩
    | succ n ih =>
      intro k a h hI
      have hx : l[k]? = some l[k] := by simp
      obtain ⟨a', q1, q2⟩ := step k l[k] a hx hI
      rw [loop_in q1]
      exact ih (k + 1) a' (by omega) q2
  exact key l.length 0 a0 (by omega) h0
theorem mfind_put (m : List (Int × Int)) (k v k' : Int) : mfind (mput m k v) k' = if k' = k then some v else mfind m k' := by
  induction m with
  | nil => simp only [mput, mfind]; by_cases h : k' = k <;> simp [h]
  | cons p m ih =>
    obtain ⟨a, b⟩ := p
    simp only [mput]
    by_cases h : k = a
    · subst h
      simp only [beq_self_eq_true, if_true, mfind]
      by_cases h2 : k' = k <;> simp [h2]
    · have : (k == a) = false := by simp [h]
      simp only [this, Bool.false_eq_true, if_false, mfind, ih]
      by_cases h2 : k' = a
      · subst h2; have : ¬ k' = k := fun e => h e.symm
        simp [this]
      · simp [h2]
theorem mput_keys (m : List (Int × Int)) (k v : Int) : (mput m k v).map (·.1) = if (mfind m k).isSome then m.map (·.1) else m.map (·.1) ++ [k] := by
  induction m with
  | nil => simp [mput, mfind]
  | cons p m ih =>
    obtain ⟨a, b⟩ := p
    simp only [mput, mfind]
    by_cases h : k = a
    · subst h; simp
    · have : (k == a) = false := by simp [h]
      simp only [this, Bool.false_eq_true, if_false, List.map_cons, ih]
      split <;> simp
theorem mfind_none {m : List (Int × Int)} {k : Int} (h : mfind m k = none) : k ∉ m.map (·.1) := by
  induction m with
  | nil => simp
  | cons p m ih =>
    obtain ⟨a, b⟩ := p
    simp only [mfind] at h
    split at h
    · cases h
    · rename_i hk
      simp only [List.map_cons, List.mem_cons, not_or]
      exact ⟨by simpa using hk, ih h⟩
theorem lt_of_get {α : Type} {l : List α} {k : Nat} {x : α} (h : l[k]? = some x) : k < l.length := (List.getElem?_eq_some_iff.1 h).1
theorem succ_cast (k : Nat) (h : (k : Int) < 9223372036854775807) : iadd (k : Int) 1 = ((k + 1 : Nat) : Int) := by rw [iadd_eq (by omega) (by omega)]; omega
theorem bestOk_put {m : List (Int × Int)} {k v : Int} (h : BestOk m) (hk : 0 ≤ k) : BestOk (mput m k v) := by
  have hkeys := mput_keys m k v
  have h2 : ∀ x ∈ (mput m k v).map (·.1), 0 ≤ x := by
    intro x hx
    rw [hkeys] at hx
    split at hx
    · obtain ⟨p, hp, rfl⟩ := List.mem_map.1 hx; exact h.2 p hp
    · rcases List.mem_append.1 hx with q | q
      · obtain ⟨p, hp, rfl⟩ := List.mem_map.1 q; exact h.2 p hp
      · simp at q; subst q; exact hk
  refine ⟨?_, fun p hp => h2 _ (List.mem_map.2 ⟨p, hp, rfl⟩)⟩
  rw [hkeys]
  split
  · exact h.1
  · rename_i hn
    have := mfind_none (by simpa using hn : mfind m k = none)
    rw [List.nodup_append]
    exact ⟨h.1, by simp, fun a ha b hb => by simp at hb; subst hb; rintro rfl; exact this ha⟩
theorem bestOk_nil : BestOk [] := ⟨by simp, by simp⟩
theorem mem_of_mfind {m : List (Int × Int)} {k v : Int} (h : mfind m k = some v) : (k, v) ∈ m := by
  induction m with
  | nil => cases h
  | cons p m ih =>
    obtain ⟨a, b⟩ := p
    simp only [mfind] at h
    split at h
    · rename_i hk
      injection h with h
      have : k = a := by simpa using hk
      subst this h; simp
    · exact List.mem_cons_of_mem _ (ih h)
end Go.VI

/- Rows of rows of one's own: append. -/
set_option linter.unusedVariables false
set_option linter.unusedSimpArgs false
set_option linter.unusedSectionVars false
namespace Go.VI
open Go.RowKit

/-- g takes the rows of T behind its first n -/
def joinS (g T n : Nat) : Key → Key
  | .top q => .top q
  | .sub q i j => if q = g ∧ n ≤ i then .sub T (i - n) j else .sub q i j
def joinK (g T : Nat) (k : Key) : Bool := ofTag g k || ofTag T k
def Ctx.join (c : Ctx) (g T n b : Nat) (v : Value) (e : Nat) : Ctx :=
  ⟨c.S, fun k => if k = .top g then b else c.τ (joinS g T n k), fun k => if k = .top g then v else c.hd (joinS g T n k), fun k => if k = .top g then e else c.ty (joinS g T n k),
    fun k => if k = .top g then v.ownBlock.isSome = true else k.tag ≠ T ∧ c.D (joinS g T n k)⟩
theorem joinS_inj {g T n : Nat} {k k' : Key} (h1 : k.tag ≠ T) (h2 : k'.tag ≠ T) (h : joinS g T n k = joinS g T n k') : k = k' := by
  cases k with
  | top q => cases k' with
    | top q' => exact h
    | sub q' i' j' => simp only [joinS] at h; split at h <;> cases h
  | sub q i j => cases k' with
    | top q' => simp only [joinS] at h; split at h <;> cases h
    | sub q' i' j' =>
      simp only [joinS] at h
      simp only [Key.tag] at h1 h2
      split at h <;> split at h
      · rename_i a b; injection h with _ e1 e2; rw [a.1, b.1, e2, show i = i' from by omega]
      · injection h with e1; exact absurd e1.symm h2
      · injection h with e1; exact absurd e1 h1
      · exact h
theorem joinS_top {g T n : Nat} {k : Key} (h : joinS g T n k = .top g) : k = .top g := by
  cases k with
  | top q => exact h
  | sub q i j => simp only [joinS] at h; split at h <;> cases h
theorem joinS_other {g T n : Nat} {k : Key} (h : k.tag ≠ g) : joinS g T n k = k := by
  cases k with
  | top q => rfl
  | sub q i j => simp only [joinS]; rw [if_neg]; exact fun q => h q.1

section
variable {P : Program} {E : Ent} {S0 : Nat → Prop} {N : Nat} {σ : St} {a : Act} {w : World} {c : Ctx}
theorem appendJ_ok {o : Oper} {t e g T : Nat} {s x : Operand} {J : List (Nat × Nat)} {es es2 : List (List PV)} (ho : o.op = .call { callee := .builtin .append, args := #[s, x], argTypes := #[t, t] }) (ht : tElem P t = some e) (hrow : tRow P e = true)
    (hs : pev σ s = .row (.top g) e) (hx : pev σ x = .row (.top T) e) (hgR : σ.hget g = some (.row e J es)) (hgT : σ.hget T = some (.row e J es2)) (hne : T ≠ g) (hg : g < PIN) (hT : T < PIN) (hlim : es.length + es2.length ≤ LIM)
    (h : Inv P E S0 N σ a w c) (hd : ∀ k, o.dst = some k → k < N) : Does P E S0 N o a w (Res.put σ o.dst ⟨[joinK g T], [(g, .row e J (es ++ es2))], .row (.top g) e⟩) := by
  have rs := h.ev s
  have rx := h.ev x
  rw [hs] at rs
  rw [hx] at rx
  obtain ⟨i, z, hi, hz, hsz, hby, hzs, hsize⟩ := tRow_some hrow
  have hu := tElem_some ht
  have hV : a.eval s = c.hd (.top g) := by
    generalize a.eval s = X at rs
    cases rs with
    | free _ _ hf => cases hf
    | row => rfl
  have hX : a.eval x = c.hd (.top T) := by
    generalize a.eval x = X at rx
    cases rx with
    | free _ _ hf => cases hf
    | row => rfl
  have hexec : ∀ v' w', (Builtin.append_ #[t, t] o.type #[a.eval s, a.eval x]).run P w = .ok v' w' → (execOp a.eval o).run P w = .ok (.value v') w' := by
    intro v' w' hrun
    unfold execOp
    simp only [ho, resolve, invoke, builtin, Sem.run_bind, Sem.run_pure, Result.andThen_ok, List.map_toArray, List.map_cons, List.map_nil, hrun]
  obtain ⟨xs, rr⟩ := h.objs g _ hgR
  obtain ⟨xt, rt⟩ := h.objs T _ hgT
  have h1 : ∀ u ∈ xt, u.oneCell' = true := fun u hu => by
    obtain ⟨m, hm, rfl⟩ := List.getElem_of_mem hu
    have hl := rt.own.1
    have hk0 := rt.pos
    have q1 : m / tSize P e < es2.length := Nat.div_lt_of_lt_mul (by rw [Nat.mul_comm, ← hl]; exact hm)
    have q2 : m % tSize P e < tSize P e := Nat.mod_lt _ hk0
    have q3 := rt.len _ (List.getElem_mem q1)
    have q4 : getE es2 (m / tSize P e) (m % tSize P e) = some ((es2[m / tSize P e])[m % tSize P e]) := by unfold getE; simp [q1, q3, q2]
    have := rt.one _ _ _ q4
    rwa [Nat.mul_comm, Nat.div_add_mod, List.getD_eq_getElem?_getD, List.getElem?_eq_getElem hm] at this
  obtain ⟨A, cc, hXv, hA, hcell⟩ : ∃ A cc, c.hd (.top T) = .slice A es2.length cc ∧ (es2.length ≠ 0 → ∃ ad, A = some ad) ∧ (∀ ad, A = some ad → ∀ (j : Nat) u, xt[j]? = some u → w.cell? (ad.add j) = some u) := by
    rcases rt.own.2 with ⟨h0, hn⟩ | ⟨g2, cap, cur, h0, hb2, hg2, hnc, rest⟩
    · exact ⟨none, 0, by rw [h0, hn], fun q => absurd hn q, fun ad q => nomatch q⟩
    · have hob : (c.hd (.top T)).ownBlock = some g2 := by rw [h0]; rfl
      refine ⟨_, cap, h0, fun _ => ⟨_, rfl⟩, fun ad had j u hj => ?_⟩
      injection had with had
      subst had
      have := own_cells rt.own hob j (by have := len_of_get hj; rw [rt.own.1] at this; exact this)
      rw [this, List.getD_eq_getElem?_getD, hj]; rfl
  obtain ⟨v', w', hrun, hown', hgrow, hblk⟩ := run_append_any (P := P) 0 t o.type e i z (tSize P e) hu hi hz hsize hby hzs rr.pos (c.hd (.top g)) es.length xs rr.own A es2.length cc xt rt.own.1 hA hcell h1 hlim (Nat.zero_le _)
  rw [← hXv, ← hX, ← hV] at hrun
  have hVb : ∀ b, (c.hd (.top g)).ownBlock = some b → E.M b ∧ ¬ c.S b ∧ ∀ k', k' ≠ .top g → c.D k' → c.τ k' ≠ b := fun b hb' => by
    obtain ⟨q1, q2⟩ := rr.blk b hb'
    have := h.ok.hD _ q1
    rw [q2] at this
    exact ⟨this.1, this.2.2, fun k' hne hg' e => hne (by rw [h.ok.inj _ _ hg' q1 (by rw [e, q2])])⟩
  have hsame : ∀ b, b < w.heap.size → (c.hd (.top g)).ownBlock ≠ some b → w'.heap[b]? = w.heap[b]? := fun b hb' hne => hgrow.block b hb' (Ne.symm hne)
  have hS : Same c.S w w' := fun b hS => hsame b (h.ok.hS b hS) fun e => (hVb b e).2.1 hS
  have hDs : ∀ k, k ≠ .top g → c.D k → w'.heap[c.τ k]? = w.heap[c.τ k]? := fun k hk hD => hsame _ (h.ok.hD k hD).2.1 fun e => (hVb _ e).2.2 k hk hD rfl
  have below : E.Fr w' := ⟨hgrow.os.trans h.below.os, hgrow.tape.trans h.below.tape, hgrow.output.trans h.below.output, Nat.le_trans h.below.size hgrow.size, fun k hk' hm => (hsame k (Nat.lt_of_lt_of_le hk' h.below.size) fun e => hm (hVb k e).1).trans (h.below.block k hk' hm)⟩
  let b := (v'.ownBlock).getD 0
  let c' := c.join g T es.length b v' e
  have ctop : c'.τ (.top g) = b ∧ c'.hd (.top g) = v' ∧ c'.ty (.top g) = e ∧ (c'.D (.top g) ↔ v'.ownBlock.isSome = true) := by simp [c', Ctx.join]
  have coth : ∀ k, k ≠ .top g → c'.τ k = c.τ (joinS g T es.length k) ∧ c'.hd k = c.hd (joinS g T es.length k) ∧ c'.ty k = c.ty (joinS g T es.length k) ∧ (c'.D k ↔ k.tag ≠ T ∧ c.D (joinS g T es.length k)) := fun k hk => by simp [c', Ctx.join, hk]
  have hbb : v'.ownBlock.isSome = true → E.M b ∧ b < w'.heap.size ∧ ¬ c.S b ∧ ∀ k', k' ≠ .top g → c.D k' → c.τ k' ≠ b := fun hs => by
    obtain ⟨b', hb'⟩ := Option.isSome_iff_exists.1 hs
    have hbe : b = b' := by simp [b, hb']
    rw [hbe]
    have hlt : b' < w'.heap.size := (hown'.lt b' hb').2
    rcases hblk with hq | hq
    · have := hVb b' (by rw [← hq, hb'])
      exact ⟨this.1, hlt, this.2.1, this.2.2⟩
    · rw [hb'] at hq
      injection hq with hq
      subst hq
      exact ⟨h.below.mine (Nat.le_refl _), hlt, fun hS => by have := h.ok.hS _ hS; omega, fun k' _ hg' e => by have := (h.ok.hD k' hg').2.1; omega⟩
  have hok : c'.Ok E.M w' := by
    refine ⟨fun b hb => Nat.lt_of_lt_of_le (h.ok.hS b hb) hgrow.size, fun k hk => ?_, fun k k' hk hk' he => ?_⟩
    · by_cases q : k = .top g
      · subst q
        have := hbb (ctop.2.2.2.1 hk)
        rw [ctop.1]; exact ⟨this.1, this.2.1, this.2.2.1⟩
      · have hk0 := ((coth k q).2.2.2.1 hk).2
        rw [(coth k q).1]
        exact ⟨(h.ok.hD _ hk0).1, Nat.lt_of_lt_of_le (h.ok.hD _ hk0).2.1 hgrow.size, (h.ok.hD _ hk0).2.2⟩
    · by_cases q : k = .top g <;> by_cases q' : k' = .top g
      · rw [q, q']
      · subst q
        rw [ctop.1, (coth k' q').1] at he
        have hk0 := ((coth k' q').2.2.2.1 hk').2
        exact absurd he.symm ((hbb (ctop.2.2.2.1 hk)).2.2.2 _ (fun e => q' (joinS_top e)) hk0)
      · subst q'
        rw [ctop.1, (coth k q).1] at he
        have hk0 := ((coth k q).2.2.2.1 hk).2
        exact absurd he ((hbb (ctop.2.2.2.1 hk')).2.2.2 _ (fun e => q (joinS_top e)) hk0)
      · rw [(coth k q).1, (coth k' q').1] at he
        have hk0 := (coth k q).2.2.2.1 hk
        have hk0' := (coth k' q').2.2.2.1 hk'
        exact joinS_inj hk0.1 hk0'.1 (h.ok.inj _ _ hk0.2 hk0'.2 he)
  have hrep : HRep P w' c' g (.row e J (es ++ es2)) := by
    refine ⟨xs ++ xt, ctop.2.2.1, rr.pos, fun l hl => (List.mem_append.1 hl).elim (rr.len l) (rt.len l), by rw [ctop.2.1, List.length_append]; exact hown', fun b' hb' => ?_, fun i j pv hg => ?_, fun i j pv hg => ?_⟩
    · rw [ctop.2.1] at hb'
      exact ⟨ctop.2.2.2.2 (by rw [hb']; rfl), by rw [ctop.1]; simp [b, hb']⟩
    · rcases append_get rr.len rt.len rr.own.1 (news := xt) hg with ⟨q1, q2⟩ | ⟨i', _, q1, q2⟩
      · rw [q2]; exact rr.one i j pv q1
      · rw [q2]; exact rt.one i' j pv q1
    · rcases append_get rr.len rt.len rr.own.1 (news := xt) hg with ⟨q1, q2⟩ | ⟨i', hii, q1, q2⟩
      · rw [q2]
        have hlt := (getE_lt rr.len q1).1
        have := rr.rep i j pv q1
        unfold CellRep at this ⊢
        split at this
        · exact this.same hS fun _ h => h
        · rename_i e' hJ
          obtain ⟨p1, es', xs', p2, p3⟩ := this
          have hsk : joinS g T es.length (.sub g i j) = .sub g i j := by simp only [joinS]; rw [if_neg]; omega
          have hc := coth (.sub g i j) (by simp)
          rw [hsk] at hc
          exact ⟨p1.trans hc.2.1.symm, es', xs', p2, p3.keep ⟨hc.1, hc.2.1, hc.2.2.1⟩ (fun hD => ⟨hDs _ (by simp) hD, hc.2.2.2.2 ⟨fun q => hne q.symm, hD⟩⟩) fun _ _ _ _ r => r.same hS fun _ h => h⟩
      · rw [q2]
        have := rt.rep i' j pv q1
        unfold CellRep at this ⊢
        split at this
        · exact this.same hS fun _ h => h
        · rename_i e' hJ
          obtain ⟨p1, es', xs', p2, p3⟩ := this
          subst hii
          have hsk : joinS g T es.length (.sub g (es.length + i') j) = .sub T i' j := by simp only [joinS]; rw [if_pos ⟨trivial, by omega⟩]; congr 1; omega
          have hc := coth (.sub g (es.length + i') j) (by simp)
          rw [hsk] at hc
          refine ⟨p1.trans hc.2.1.symm, es', xs', p2, ?_⟩
          have k1 : RowRep P w' c (.sub T i' j) e' es' (fun _ _ pv v => RF w' c.S pv v) xs' := RowRep.keep (c := c) (c' := c) (Agree.refl c _) (fun q => ⟨hDs _ (by simp) q, q⟩) (fun _ _ _ _ q => RF.same hS (fun _ h => h) q) p3
          exact RowRep.retag (c := c) (c' := c') hc.1 hc.2.1 hc.2.2.1 (fun q => hc.2.2.2.2 ⟨fun q => hne q.symm, q⟩) (fun _ _ _ _ _ q => q) k1
  have hrv : RV P w' c' (.row (.top g) e) v' := by
    obtain ⟨xs', r'⟩ := hrep
    have := RV.row (P := P) (w := w') (c := c') (.top g) e r'.ty r'.hd_one
    rwa [ctop.2.1] at this
  refine does_mut hd (.inl (hexec _ _ hrun)) (c' := c') ?_ hrv
  have notp : ∀ k, joinK g T k = false → k.tag ≠ g ∧ k.tag ≠ T := fun k hk => by
    simp only [joinK, Bool.or_eq_false_iff] at hk
    exact ⟨ofTag_ff.1 hk.1, ofTag_ff.1 hk.2⟩
  have isp : ∀ k, joinK g T k = true → k.tag = g ∨ k.tag = T := fun k hk => by
    simp only [joinK, Bool.or_eq_true] at hk
    exact hk.imp ofTag_iff.1 ofTag_iff.1
  have nt : ∀ k : Key, k.tag ≠ g → k ≠ .top g := fun k hk q => hk (by rw [q]; rfl)
  refine h.step (c' := c') (joinK g T) (fun q => q = g ∨ q = T) below hok hS (fun _ h => h) h.sup (fun k hk hp => ?_) (fun k hk => ?_) (fun k hD hx => ?_) (fun k hk => isp k hk) rfl (fun g' o hx hg' => ?_) (fun g' o hx hg' => ?_)
  · rcases isp k hp with q | q <;> omega
  · have hc := coth k (nt k (notp k hk).1)
    rw [joinS_other (notp k hk).1] at hc
    exact ⟨hc.1, hc.2.1, hc.2.2.1⟩
  · have hkg : k.tag ≠ g := fun q => hx (.inl q)
    have hc := coth k (nt k hkg)
    rw [joinS_other hkg] at hc
    exact ⟨hDs k (nt k hkg) hD, hc.2.2.2.2 ⟨fun q => hx (.inr q), hD⟩⟩
  · simp only [Res.base, List.foldl_cons, List.foldl_nil, hget_put] at hg'
    rwa [if_neg (fun q => hx (.inl q))] at hg'
  · simp only [Res.base, List.foldl_cons, List.foldl_nil, hget_put] at hg'
    split at hg'
    · rename_i q
      injection hg' with hg'
      subst hg' q
      exact hrep
    · rename_i q
      rcases hx with hx | hx
      · exact absurd hx q
      · subst hx
        rw [hget_kill] at hg'
        have : joinK g g' (.top g') = true := by simp [joinK, ofTag, Key.tag]
        rw [if_pos this] at hg'
        cases hg'
end

/-! ### rules -/
section
variable {G : Prg} {ops : Array Oper} {k : Nat} {σ : St} {α β : Type} {c : α → List PV} {c2 : β → List PV}
theorem rowAt_sub {h : HP} {g i j e : Nat} {J : List (Nat × Nat)} {l : List α} {x : α} {l2 : List β} (hg : h.get g = some (.row e J (l.map c))) (hJ : (Jat J j).isSome = true) (hx : l[i]? = some x) (hc : (c x)[j]? = some (.sl (l2.map c2))) : h.rowAt (.sub g i j) = some (l2.map c2) := by
  simp only [HP.rowAt, hg, hJ, if_true, List.getElem?_map, hx, Option.map_some, hc]
theorem elems_sub {h : HP} {g i j e e0 : Nat} {J : List (Nat × Nat)} {l : List α} {x : α} {l2 : List β} (hg : h.get g = some (.row e J (l.map c))) (hJ : (Jat J j).isSome = true) (hx : l[i]? = some x) (hc : (c x)[j]? = some (.sl (l2.map c2))) : (PV.row (.sub g i j) e0).elems h = some (l2.map c2) := rowAt_sub hg hJ hx hc
theorem rowSet_sub {h : HP} {g i j e : Nat} {J : List (Nat × Nat)} {l : List α} {x x' : α} {es' : List (List PV)} (hg : h.get g = some (.row e J (l.map c))) (hx : l[i]? = some x) (hs : setAt (c x) j [.sl es'] = c x') : h.rowSet es' (.sub g i j) = some (.row e J ((l.set i x').map c)) := by
  simp only [HP.rowSet, hg, modify_map hx hs]
def bldJAt (G : Prg) (ops : Array Oper) (k : Nat) (σ : St) : Option (Nat × PV × Nat) := match onAt ops k σ with
  | some o => (match o.op with
    | .buildSlice t n parts => (match n, parts.toList with
      | 1, [(0, x)] => (match tElem G.P t with
        | some e => if tRow G.P e && Nat.beq (tSize G.P e) 1 then some (e, pev σ x, o.dst.getD 0) else none
        | none => none)
      | _, _ => none)
    | _ => none)
  | none => none
theorem at_buildJ {e e' d T : Nat} {l : List β} {x : α} (h : bldJAt G ops k σ = some (e, .row (.top d) e', T)) (hg : σ.h.get d = some (.row e' [] (l.map c2))) (hd : (Nat.blt d PIN && !Nat.beq d T) = true) (hx : c x = [.sl (l.map c2)]) :
    DoesAt G ops k σ ⟨[takeK d T], [(T, .row e [(0, e')] ([x].map c))], .row (.top T) e⟩ := by
  simp only [Bool.and_eq_true, Bool.not_eq_true'] at hd
  unfold bldJAt at h
  split at h
  case h_2 => cases h
  rename_i o ho
  split at h
  case h_2 => cases h
  rename_i t n parts hop
  split at h
  case h_2 => cases h
  rename_i x' hparts
  split at h
  case h_2 => cases h
  rename_i e0 he
  split at h
  case isFalse => cases h
  rename_i hc
  simp only [Bool.and_eq_true] at hc
  simp only [Option.some.injEq, Prod.mk.injEq] at h
  obtain ⟨rfl, hx', rfl⟩ := h
  obtain ⟨q1, q2⟩ := onAt_spec ho
  obtain rfl : parts = #[(0, x')] := Array.toList_inj.1 hparts
  refine ⟨o, q1, q2, fun hi hdd => ?_⟩
  have := buildJ_ok hop he hc.1 (Nat.eq_of_beq_eq_true hc.2) rfl (by simpa using hd.1) (fun q => by rw [q, Nat.beq_refl] at hd; cases hd.2) hx' hg hi hdd
  rwa [List.map_cons, List.map_nil, hx]
theorem at_appJ {g T e sz d : Nat} {J : List (Nat × Nat)} {l l2 l' : List α} (h : appAt G ops k σ = some (.row (.top g) e, .row (.top T) e, e, sz, d)) (ha : σ.h.get g = some (.row e J (l.map c))) (hx : σ.h.get T = some (.row e J (l2.map c))) (hc : (Nat.blt g PIN && Nat.blt T PIN && !Nat.beq T g) = true) (hl : app l l2 = some l') :
    DoesAt G ops k σ ⟨[joinK g T], [(g, .row e J (l'.map c))], .row (.top g) e⟩ := by
  obtain ⟨h1, rfl⟩ := appS hl
  simp only [Bool.and_eq_true, Bool.not_eq_true'] at hc
  unfold appAt at h
  split at h
  case h_2 => cases h
  rename_i o ho
  split at h
  case h_2 => cases h
  rename_i cl hop
  split at h
  case h_2 => cases h
  rename_i hcal
  split at h
  case h_2 => cases h
  rename_i a' x' t t' hargs hty
  split at h
  case isFalse => cases h
  rename_i ht
  split at h
  case h_2 => cases h
  rename_i e' he
  split at h
  case isFalse => cases h
  rename_i hrow
  simp only [Option.some.injEq, Prod.mk.injEq] at h
  obtain ⟨ha', hx', rfl, rfl, rfl⟩ := h
  obtain ⟨q1, q2⟩ := onAt_spec ho
  subst ht
  have hop' : o.op = .call { callee := .builtin .append, args := #[a', x'], argTypes := #[t, t] } := by
    rw [hop]
    obtain ⟨callee, args, argTypes⟩ := cl
    simp only at hcal hargs hty
    subst hcal
    rw [show args = #[a', x'] from Array.toList_inj.1 hargs, show argTypes = #[t, t] from Array.toList_inj.1 hty]
  refine ⟨o, q1, q2, fun hi hdd => ?_⟩
  have := appendJ_ok hop' he hrow ha' hx' ha hx (fun q => by rw [q, Nat.beq_refl] at hc; cases hc.2) (by simpa using hc.1.1) (by simpa using hc.1.2) (by simpa using h1) hi hdd
  rwa [← List.map_append] at this
def mvAt (G : Prg) (ops : Array Oper) (k : Nat) (σ : St) : Option (PV × PV) := match onAt ops k σ with
  | some o => (match o.op with
    | .store t a x => (match tAgg G.P t with
      | some false => if Nat.beq (tSize G.P t) 1 = true then some (pev σ a, pev σ x) else none
      | _ => none)
    | _ => none)
  | none => none
/-- a row of one's own becomes the row of a cell -/
theorem at_moveJ {g d e e' i off : Nat} {J : List (Nat × Nat)} {l : List α} {x x' : α} {l2 : List β} (h : mvAt G ops k σ = some (.rptr (.top g) e i off, .row (.top d) e')) (hg : σ.h.get g = some (.row e J (l.map c))) (hgd : σ.h.get d = some (.row e' [] (l2.map c2)))
    (hc : (Nat.blt d PIN && !Nat.beq d g && Nat.blt off (tSize G.P e)) = true) (hJ : Jat J off = some e') (hx : l[i]? = some x) (hs : setAt (c x) off [.sl (l2.map c2)] = c x') :
    DoesAt G ops k σ ⟨[moveK d g], [(g, .row e J ((l.set i x').map c))], .lit undef⟩ := by
  simp only [Bool.and_eq_true, Bool.not_eq_true'] at hc
  unfold mvAt at h
  split at h
  case h_2 => cases h
  rename_i o ho
  split at h
  case h_2 => cases h
  rename_i t a' y hop
  split at h
  case h_2 => cases h
  rename_i he
  split at h
  case isFalse => cases h
  rename_i h1
  simp only [Option.some.injEq, Prod.mk.injEq] at h
  obtain ⟨ha', hy⟩ := h
  obtain ⟨q1, q2⟩ := onAt_spec ho
  refine ⟨o, q1, q2, fun hi hdd => ?_⟩
  have := move_ok hop he (Nat.eq_of_beq_eq_true h1) (.inr trivial) (by simpa using hc.1.1) (fun q => by rw [q, Nat.beq_refl] at hc; cases hc.1.2) ha' hy hg hgd (by have := (List.getElem?_eq_some_iff.1 hx).1; simpa using this) (by simpa using hc.2) hJ hi hdd
  rwa [modify_map hx hs] at this
def mkJAt (G : Prg) (ops : Array Oper) (k : Nat) (σ : St) : Option (Nat × PV × PV × Nat) := match onAt ops k σ with
  | some o => (match o.op with
    | .makeSlice t l h => (match tElem G.P t with
      | some e => (match tZero G.P e with
        | some z => (match z.cells.toList with
          | [.slice none 0 0] => if tRow G.P e = true then some (e, pev σ l, pev σ h, o.dst.getD 0) else none
          | _ => none)
        | none => none)
      | none => none)
    | _ => none)
  | none => none
/-- a row of rows that are nil -/
theorem at_mkJ {z : α} {l' : List α} {e e2 d : Nat} {k1 k2 : IntKind} {n : Int} (h : mkJAt G ops k σ = some (e, .lit (.int k1 n), .lit (.int k2 n), d)) (hz : c z = [.sl []]) (h2 : Nat.blt 0 (tSize G.P e2) = true) (hl : mk n z = some l') : DoesAt G ops k σ (.new d (.row e [(0, e2)] (l'.map c)) (.row (.top d) e)) := by
  unfold mk at hl
  split at hl
  case isFalse => cases hl
  rename_i hn
  injection hl with hl
  subst hl
  unfold mkJAt at h
  split at h
  case h_2 => cases h
  rename_i o ho
  split at h
  case h_2 => cases h
  rename_i t x hi' hop
  split at h
  case h_2 => cases h
  rename_i e' he
  split at h
  case h_2 => cases h
  rename_i z' hz'
  split at h
  case h_2 => cases h
  rename_i hzc
  split at h
  case isFalse => cases h
  rename_i hrow
  simp only [Option.some.injEq, Prod.mk.injEq] at h
  obtain ⟨rfl, h3, h4, rfl⟩ := h
  obtain ⟨q1, q2⟩ := onAt_spec ho
  refine ⟨o, q1, q2, fun hi hdd => ?_⟩
  have hL : n.toNat ≤ LIM := by have := hn.2; omega
  have := make_ok (J := [(0, e2)]) hop he (by rw [h3]; exact pidx_of hn.1) (by rw [h4]; exact pidx_of hn.1) hz' hrow (Nat.le_refl _) hL (by rw [hzc]; rfl) (fun j e' hJ => by
    simp only [Jat] at hJ
    split at hJ
    · rename_i hj
      obtain rfl := Nat.eq_of_beq_eq_true hj
      injection hJ with hJ
      subst hJ
      refine ⟨by simpa using h2, fun _ => ?_⟩
      rw [Array.getD_eq_getD_getElem?, ← Array.getElem?_toList, hzc]; rfl
    · cases hJ) hi hdd
  rw [hzc] at this
  rwa [List.map_replicate, hz]
end
end Go.VI

/- Great arrays of integers in boxes. -/
set_option linter.unusedVariables false
set_option linter.unusedSimpArgs false
set_option linter.unusedSectionVars false
namespace Go.VI
open Go.RowKit
section
variable {G : Prg} {ops : Array Oper} {k : Nat} {σ : St} {l l2 : List Int} {g : Nat}
theorem st_paxB {n sz : Nat} {kd : IntKind} {i : Int} {p q : PV} (h : paxAt G ops k σ = some (n, sz, p, .lit (.int kd i))) (hb : (decide ((0 : Int) ≤ i) && decide (i < (n : Int))) = true) (hq : padd (i.toNat * sz) p = some q) : stepAt G ops k σ = some (.val q) := by
  simp only [Bool.and_eq_true, decide_eq_true_eq] at hb
  exact st_pax h hb.1 hb.2 hq
theorem st_ald {i x : Int} (h : ldAt G ops k σ = some (false, 1, .ptr g (0 + i.toNat * 1))) (hg : σ.h.get g = some (.box (l.map vI))) (hx : idx l i = some x) : stepAt G ops k σ = some (.val (vI x)) := by
  refine ldAt_spec h ?_
  simp only [pload, hg, Nat.zero_add, Nat.mul_one, List.getElem?_map, (idxS hx).2, Option.map_some, Bool.false_eq_true, if_false]
theorem setAt_one (cs : List PV) (off : Nat) (v : PV) : setAt cs off [v] = cs.set off v := rfl
theorem st_ast {i x y : Int} (h : stAt G ops k σ = some (false, 1, .ptr g (0 + i.toNat * 1), vI y)) (hg : σ.h.get g = some (.box (l.map vI))) (hx : idx l i = some x) : stepAt G ops k σ = some ⟨[], [(g, .box ((l.set i.toNat y).map vI))], .lit undef⟩ := by
  refine stAt_spec h ?_
  have hl := (List.getElem?_eq_some_iff.1 (idxS hx).2).1
  have h1 : (vI y).cells = [vI y] := rfl
  have h2 : (vI y).isAgg = false := rfl
  have h3 : [vI y].all PV.cell = true := rfl
  simp only [pstore, h1, h2, hg, Nat.zero_add, Nat.mul_one, List.length_singleton, and_self, if_true, List.length_map]
  rw [if_pos ⟨by omega, h3⟩, setAt_one, List.map_set]
theorem setAt_all : ∀ (vs cs pre : List PV), vs.length = cs.length → setAt (pre ++ cs) pre.length vs = pre ++ vs
  | [], cs, pre, h => by
    have : cs = [] := List.eq_nil_of_length_eq_zero (by simpa using h.symm)
    subst this; rfl
  | v :: vs, [], pre, h => by simp at h
  | v :: vs, c :: cs, pre, h => by
    simp only [setAt]
    have e : (pre ++ c :: cs).set pre.length v = (pre ++ [v]) ++ cs := by
      rw [List.set_append_right _ _ (Nat.le_refl _)]; simp
    rw [e]
    have := setAt_all vs cs (pre ++ [v]) (by simpa using h)
    rw [List.length_append, List.length_singleton] at this
    rw [this]; simp
theorem st_aldW {n : Nat} (h : ldAt G ops k σ = some (true, n, .ptr g 0)) (hg : σ.h.get g = some (.box (l.map vI))) (hl : ((l.length : Int) == (n : Int)) = true) : stepAt G ops k σ = some (.val (.agg (l.map vI))) := by
  have hl' : l.length = n := by rw [beq_iff_eq] at hl; omega
  refine ldAt_spec h ?_
  simp only [pload, hg, range?, if_true, Nat.zero_add, List.length_map, hl', Nat.le_refl, List.drop_zero, Option.map_some]
  rw [List.take_of_length_le (by simp [hl'])]
theorem all_vI (l : List Int) : (l.map vI).all PV.cell = true := by
  rw [List.all_eq_true]
  intro v hv
  obtain ⟨x, _, rfl⟩ := List.mem_map.1 hv
  rfl
theorem st_astW {n : Nat} (h : stAt G ops k σ = some (true, n, .ptr g 0, .agg (l2.map vI))) (hg : σ.h.get g = some (.box (l.map vI))) (hl : (((l.length : Int) == (n : Int)) && ((l2.length : Int) == (n : Int))) = true) : stepAt G ops k σ = some ⟨[], [(g, .box (l2.map vI))], .lit undef⟩ := by
  simp only [Bool.and_eq_true, beq_iff_eq] at hl
  have h0 : l.length = n ∧ l2.length = n := by omega
  refine stAt_spec h ?_
  have h2 : (PV.agg (l2.map vI)).isAgg = true := rfl
  have h1 : (PV.agg (l2.map vI)).cells = l2.map vI := rfl
  simp only [pstore, h1, h2, hg, List.length_map, h0.2, h0.1, and_self, if_true, Nat.zero_add, Nat.le_refl, true_and]
  rw [if_pos (all_vI l2)]
  have := setAt_all (l2.map vI) (l.map vI) [] (by simp [h0])
  simp only [List.nil_append, List.length_nil] at this
  rw [this]
theorem del_nil : ∀ h : HP, h.del [] = h
  | [] => rfl
  | (g, o) :: h => by simp only [HP.del, TL.inn, Option.isSome_none, Bool.false_eq_true, if_false, del_nil h]
theorem hkill_no : ∀ h : HP, h.kill noKey = h
  | [] => rfl
  | (g, o) :: h => by simp only [HP.kill, noKey, Bool.false_eq_true, if_false]; rw [show o.kill noKey = o from kill_no o] at *; rw [show HP.kill noKey h = h from hkill_no h]
theorem smap_kill_no : ∀ s : SL, s.map (PV.kill noKey) = s
  | [] => rfl
  | (i, v) :: s => by simp only [SL.map, kill_free noKey v (has_no v), smap_kill_no s]
theorem after_nil (σ : St) : after ([] ++ []) (([].filter fun (x : Nat × Nat) => Nat.ble PIN x.1).map (·.2)) σ [] = σ := by
  have e : gone ([] ++ []) (([].filter fun (x : Nat × Nat) => Nat.ble PIN x.1).map (·.2)) = noKey := by
    funext k; simp [gone, noKey, TL.inn]
  unfold after
  rw [e]
  simp only [St.kill, HP.ren, List.nil_append, del_nil, hkill_no, smap_kill_no]
/-- a call that hands nothing over and lays nothing anew -/
theorem evs_callP {Q : St → Prop} (vis : List Nat) {f : Nat} {qs : List PV} {r : PV} (hc : callQ ops k σ [] vis = some (f, qs)) (pc : PC G.P f qs [] r []) (ht : tagsOk [] [] vis = true) (ind : vis = [] ∨ r.ind = true) (hr : r.ren [] = r)
    (next : EVS G ops (k + 1) (setO σ (dstAt ops k) r) Q) : EVS G ops k σ Q :=
  evs_callS [] [] vis hc pc ht rfl (ind.imp id fun q => ⟨q, fun _ _ h => nomatch h⟩) (by rw [after_nil, show r.ren ([] ++ []) = r from hr]; exact next)
theorem evo_callP {Q : St → Prop} (vis : List Nat) {f : Nat} {qs : List PV} {r : PV} (hc : callQ ops k σ [] vis = some (f, qs)) (pc : PC G.P f qs [] r []) (ht : tagsOk [] [] vis = true) (ind : vis = [] ∨ r.ind = true) (hr : r.ren [] = r)
    (next : EVO G ops (k + 1) (setO σ (dstAt ops k) r) Q) : EVO G ops k σ Q :=
  evo_callS [] [] vis hc pc ht rfl (ind.imp id fun q => ⟨q, fun _ _ h => nomatch h⟩) (by rw [after_nil, show r.ren ([] ++ []) = r from hr]; exact next)
/-- forgets keys, but leaves the array g as it is -/
def HP.killX (g : Nat) (p : Key → Bool) : HP → HP
  | [] => []
  | (q, o) :: h => if p (.top q) = true then HP.killX g p h else (q, if Nat.beq q g = true then o else o.kill p) :: HP.killX g p h
theorem kill_arr (p : Key → Bool) (l : List Int) : (HO.box (l.map vI)).kill p = .box (l.map vI) := by
  simp only [HO.kill]
  congr 1
  induction l with
  | nil => rfl
  | cons x l ih => simp only [List.map_cons, PV.killL, ih]; rfl
theorem killX_get {g : Nat} {l : List Int} {p : Key → Bool} : ∀ {h : HP}, h.get g = some (.box (l.map vI)) → ∀ q, (h.killX g p).get q = (h.kill p).get q
  | [], hg, q => rfl
  | (q0, o) :: h, hg, q => by
    simp only [HP.killX, HP.kill]
    by_cases e : g = q0
    · subst e
      simp only [HP.get, Nat.beq_refl, if_true, Option.some.injEq] at hg
      subst hg
      have tail : ∀ (h : HP), p (.top g) = true → ∀ q, (h.killX g p).get q = (h.kill p).get q := by
        intro h hp
        induction h with
        | nil => intro q; rfl
        | cons x h ih =>
          obtain ⟨q1, o1⟩ := x
          intro q
          simp only [HP.killX, HP.kill]
          split
          · exact ih q
          · rename_i h1
            have : Nat.beq q1 g = false := by
              cases hb : Nat.beq q1 g with
              | false => rfl
              | true => rw [Nat.eq_of_beq_eq_true hb] at h1; exact absurd hp h1
            rw [this]
            simp only [HP.get, Bool.false_eq_true, if_false, ih q]
      have tail2 : ∀ (h : HP), ∀ q, q ≠ g → (h.killX g p).get q = (h.kill p).get q := by
        intro h
        induction h with
        | nil => intro q _; rfl
        | cons x h ih =>
          obtain ⟨q1, o1⟩ := x
          intro q hq
          simp only [HP.killX, HP.kill]
          split
          · exact ih q hq
          · by_cases e1 : q1 = g
            · subst e1
              simp only [HP.get, beq_ff hq, Bool.false_eq_true, if_false, ih q hq]
            · simp only [beq_ff e1, Bool.false_eq_true, if_false, HP.get, ih q hq]
      split
      · rename_i hp; exact tail h hp q
      · simp only [Nat.beq_refl, if_true, kill_arr, HP.get]
        by_cases e2 : q = g
        · subst e2; simp
        · simp only [beq_ff e2, Bool.false_eq_true, if_false]; exact tail2 h q e2
    · simp only [HP.get, beq_ff e, Bool.false_eq_true, if_false] at hg
      have ih := killX_get (p := p) hg
      split
      · exact ih q
      · simp only [beq_ff (Ne.symm e), Bool.false_eq_true, if_false, HP.get, ih q]
/-- something new beside an array -/
theorem evs_new1 {K : St → Prop} {d : Nat} {ob : HO} {v : PV} (h : stepAt G ops k σ = some (.new d ob v)) (hg : σ.h.get g = some (.box (l.map vI))) (next : EVS G ops (k + 1) (setO ⟨(d, .undef) :: σ.s.map (PV.kill (ofTag d)), (d, ob) :: σ.h.killX g (ofTag d)⟩ (dstAt ops k) v) K) : EVS G ops k σ K := by
  refine evs_op h (evs_sub ⟨fun i => ?_, fun q o hq => ?_⟩ next)
  · cases hd : dstAt ops k with
    | none =>
      simp only [setO, Res.put, Res.new, Res.base, List.foldl_cons, List.foldl_nil]
      show SL.get _ i = .undef ∨ SL.get _ i = SL.get _ i
      simp only [SL.get]
      split
      · exact .inl rfl
      · exact .inr rfl
    | some d' =>
      simp only [setO, Res.put, Res.new, Res.base, List.foldl_cons, List.foldl_nil, get_set]
      split
      · exact .inr rfl
      · show SL.get _ i = .undef ∨ SL.get _ i = SL.get _ i
        simp only [SL.get]
        split
        · exact .inl rfl
        · exact .inr rfl
  · have e1 : (setO ⟨(d, .undef) :: σ.s.map (PV.kill (ofTag d)), (d, ob) :: σ.h.killX g (ofTag d)⟩ (dstAt ops k) v).hget q = HP.get ((d, ob) :: σ.h.killX g (ofTag d)) q := by cases dstAt ops k <;> rfl
    have e2 : (Res.put σ (dstAt ops k) (.new d ob v)).hget q = HP.get ((d, ob) :: σ.h.kill (ofTag d)) q := by cases dstAt ops k <;> rfl
    rw [e1] at hq
    rw [e2]
    simp only [HP.get] at hq ⊢
    rw [← killX_get hg]
    exact hq
/-- these objects are arrays -/
def arrOk : List (Nat × List Int) → HP → Prop
  | [], _ => True
  | (g, l) :: A, h => h.get g = some (.box (l.map vI)) ∧ arrOk A h
def inA (A : List (Nat × List Int)) (t : Nat) : Bool := A.any fun x => Nat.beq x.1 t
theorem arrOk_get {h : HP} : ∀ {A : List (Nat × List Int)}, arrOk A h → ∀ t, inA A t = true → ∃ l : List Int, h.get t = some (.box (l.map vI))
  | [], _, t, ht => by simp [inA] at ht
  | (g, l) :: A, ha, t, ht => by
    simp only [inA, List.any_cons, Bool.or_eq_true] at ht
    rcases ht with q | q
    · have := Nat.eq_of_beq_eq_true q; subst this; exact ⟨l, ha.1⟩
    · exact arrOk_get ha.2 t q
theorem ren_arr (R : TL) (l : List Int) : (HO.box (l.map vI)).ren R = .box (l.map vI) := by
  simp only [HO.ren]
  congr 1
  induction l with
  | nil => rfl
  | cons x l ih => simp only [List.map_cons, PV.renL, ih]; rfl
/-- new tags; the arrays A are left as they are -/
def HP.renX (A : List (Nat × List Int)) (R : TL) : HP → HP
  | [] => []
  | (t, o) :: h => match R.out t with
    | some g => (g, if inA A t = true then o else o.ren R) :: HP.renX A R h
    | none => HP.renX A R h
theorem renX_get {A : List (Nat × List Int)} {R : TL} (q : Nat) : ∀ h : HP, (∀ t, inA A t = true → R.out t = some q → ∃ l : List Int, HP.get h t = some (.box (l.map vI))) → (HP.renX A R h).get q = (HP.ren R h).get q
  | [], _ => rfl
  | (t, o) :: h, ha => by
    have tail : (∀ g, R.out t = some g → g ≠ q) → ∀ t', inA A t' = true → R.out t' = some q → ∃ l : List Int, HP.get h t' = some (.box (l.map vI)) := fun hne t' h1 h2 => by
      obtain ⟨l, hl⟩ := ha t' h1 h2
      have : t' ≠ t := by rintro rfl; exact hne q h2 rfl
      simp only [HP.get, beq_ff this, Bool.false_eq_true, if_false] at hl
      exact ⟨l, hl⟩
    simp only [HP.renX, HP.ren]
    cases hr : R.out t with
    | none => exact renX_get q h (tail (by rw [hr]; intro g hg; cases hg))
    | some g =>
      simp only [HP.get]
      by_cases e : q = g
      · subst e
        simp only [Nat.beq_refl, if_true]
        split
        · rename_i hin
          obtain ⟨l, hl⟩ := ha t hin hr
          simp only [HP.get, Nat.beq_refl, if_true, Option.some.injEq] at hl
          rw [hl, ren_arr]
        · rfl
      · simp only [beq_ff e, Bool.false_eq_true, if_false]
        exact renX_get q h (tail (by rw [hr]; intro g' hg'; injection hg' with hg'; subst hg'; exact fun q' => e q'.symm))
def St.renX (A : List (Nat × List Int)) (R : TL) (σ : St) : St := ⟨(σ.ren R).s, σ.h.renX A R⟩
theorem subR_prepX {P : Program} (A : List (Nat × List Int)) (l : List Prep) (R : TL) {X σe : St} (hp : (X.prep P l).isSome = true) (h1 : R.okB = true) (h2 : pinOk R = true) (ha : arrOk A (X.prepD P l).h) (h : atS σe ((X.prepD P l).renX A R) = asS σe) : SubR P σe X := by
  obtain ⟨σ1, hs⟩ := Option.isSome_iff_exists.1 hp
  have e : X.prepD P l = σ1 := by unfold St.prepD; rw [hs]; rfl
  rw [e] at ha h
  intro E S0 N a w c hi0
  obtain ⟨c0, hi⟩ := (subR_prepL hs) hi0
  obtain ⟨c', hi'⟩ := hi.ren h1 h2
  have hsub : Sub (σ1.renX A R) (σ1.ren R) := ⟨fun i => .inr rfl, fun q o hq => by
    show HP.get (HP.ren R σ1.h) q = some o
    rw [← renX_get (A := A) q σ1.h fun t ht _ => arrOk_get ha t ht]
    exact hq⟩
  exact ⟨c', sub_inv (sub_map h) (sub_inv hsub hi')⟩
theorem killT_nil (σ : St) : σ.kill (killT []) = σ := by
  have e : killT [] = noKey := by funext k; simp [killT, noKey]
  rw [e]
  simp only [St.kill, hkill_no, smap_kill_no]
/-- a region that draws its order and lays nothing anew -/
theorem sem_drawP {cd : Code} {K : PX → St → Prop} (σj : St) (T F rd av fv : List (Nat × List Nat)) (m : Nat) (hk : knd cd = 2) (hok : drawOk (cOps cd) T F rd av fv m = true) (hF : F.all (fun x => inL x.2 []) = true)
    (h : EVD G (cOps cd) ⟨lst T, lst F, lst rd, lst av, lst fv⟩ m 0 σ fun σ' => EVO G (cOps cd) m σ' (fun τ => SubR G.P σj τ)) (next : ∀ τ, SubR G.P σj τ → K .normal τ) : SEM G cd σ K :=
  sem_drawC σj T F rd av fv m hk hok [] rfl hF (by rw [killT_nil]; exact h) next
theorem sem_drawN {cd : Code} {K : PX → St → Prop} (T F rd av fv : List (Nat × List Nat)) (m : Nat) (hk : knd cd = 2) (hok : drawOk (cOps cd) T F rd av fv m = true) (hF : F.all (fun x => inL x.2 []) = true)
    (h : EVD G (cOps cd) ⟨lst T, lst F, lst rd, lst av, lst fv⟩ m 0 σ fun σ' => EVO G (cOps cd) m σ' (K .normal)) : SEM G cd σ K :=
  sem_draw T F rd av fv m hk hok [] rfl hF (by rw [killT_nil]; exact h)
end
end Go.VI

