/- A slice written out of one row of one's own. -/
import Derived.Test.YtppmnjiibmomoaaVHMove
set_option linter.unusedVariables false
set_option linter.unusedSimpArgs false
set_option linter.unusedSectionVars false
namespace Go.VI
open Go.RowKit

section
variable {P : Program} {E : Ent} {S0 : Nat → Prop} {N : Nat} {σ : St} {a : Act} {w : World} {c : Ctx}
def takeK (d T : Nat) (k : Key) : Bool := ofTag d k || ofTag T k
theorem buildJ_ok {o : Oper} {t e e' d T : Nat} {x : Operand} {es' : List (List PV)} (ho : o.op = .buildSlice t 1 #[(0, x)]) (ht : tElem P t = some e) (hrow : tRow P e = true) (h1 : tSize P e = 1) (hT : T = o.dst.getD 0) (hd1 : d < PIN) (hne : d ≠ T)
    (hx : pev σ x = .row (.top d) e') (hrd : σ.hget d = some (.row e' [] es')) (h : Inv P E S0 N σ a w c) (hd : ∀ k, o.dst = some k → k < N) :
    Does P E S0 N o a w (Res.put σ o.dst ⟨[takeK d T], [(T, .row e [(0, e')] [[.sl es']])], .row (.top T) e⟩) := by
  have hTN : T < PIN := by rw [hT]; exact dst_small h hd
  have rx := h.ev x
  rw [hx] at rx
  have hX : a.eval x = c.hd (.top d) := by
    generalize a.eval x = X at rx
    cases rx with
    | free _ _ hf => cases hf
    | row => rfl
  obtain ⟨xsd, rd⟩ := h.objs d _ hrd
  have hone := rd.hd_one
  have hcell1 : (c.hd (.top d)).cells = #[c.hd (.top d)] := cells_of_one hone
  have hrun := run_buildSlice (P := P) (a := a) (w := w) (parts := #[(0, x)]) (len := 1) ht rfl (by omega) (by omega) hrow (fun p hp => by simp at hp; subst hp; simp only; rw [hX, hcell1, h1]; rfl)
  have hcells : (List.flatMap (fun (p : Nat × Operand) => (a.eval p.2).cells.toList) #[(0, x)].toList) = [c.hd (.top d)] := by simp [hX, hcell1]
  rw [hcells] at hrun
  have hexec : (execOp a.eval o).run P w = .ok (.value (.slice (some ⟨w.heap.size, 0, none⟩) 1 1)) (w.alloc (.cells #[c.hd (.top d)] e)) := by
    unfold execOp
    simp only [ho, Sem.run_bind, hrun, Result.andThen_ok, Sem.run_pure]
  have hb : Below w.heap.size w (w.alloc (.cells #[c.hd (.top d)] e)) := (Below.refl _ _).alloc (Nat.le_refl _) _
  have hnew : (w.alloc (.cells #[c.hd (.top d)] e)).heap[w.heap.size]? = some (.cells #[c.hd (.top d)] e (0, 0)) := heap_alloc_new w _
  generalize hw' : w.alloc (.cells #[c.hd (.top d)] e) = w' at hexec hb hnew
  have hbn : w.heap.size < w'.heap.size := by rw [← hw']; simp
  let c' : Ctx := ⟨c.S, fun k => if k = .top T then w.heap.size else if k = .sub T 0 0 then c.τ (.top d) else c.τ k, fun k => if k = .top T then .slice (some ⟨w.heap.size, 0, none⟩) 1 1 else if k = .sub T 0 0 then c.hd (.top d) else c.hd k,
    fun k => if k = .top T then e else if k = .sub T 0 0 then c.ty (.top d) else c.ty k, fun k => if k = .top T then True else if k = .sub T 0 0 then c.D (.top d) else k.tag ≠ d ∧ k.tag ≠ T ∧ c.D k⟩
  have ctop : c'.τ (.top T) = w.heap.size ∧ c'.hd (.top T) = .slice (some ⟨w.heap.size, 0, none⟩) 1 1 ∧ c'.ty (.top T) = e ∧ c'.D (.top T) := by simp [c']
  have csub : c'.τ (.sub T 0 0) = c.τ (.top d) ∧ c'.hd (.sub T 0 0) = c.hd (.top d) ∧ c'.ty (.sub T 0 0) = c.ty (.top d) ∧ (c'.D (.sub T 0 0) ↔ c.D (.top d)) := by simp [c']
  have hag : ∀ k, k.tag ≠ T → Agree c c' k := fun k hk => by
    have q1 : k ≠ .top T := by rintro rfl; exact hk rfl
    have q2 : k ≠ .sub T 0 0 := by rintro rfl; exact hk rfl
    simp [Agree, c', q1, q2]
  have hDo : ∀ k, k ≠ .top T → k ≠ .sub T 0 0 → (c'.D k ↔ k.tag ≠ d ∧ k.tag ≠ T ∧ c.D k) := fun k q1 q2 => by simp [c', q1, q2]
  -- what a key in use means
  have old : ∀ k, c'.D k → k = .top T ∨ ∃ k0, c.D k0 ∧ c'.τ k = c.τ k0 ∧ ((k = .sub T 0 0 ∧ k0 = .top d) ∨ (k = k0 ∧ k.tag ≠ d)) := fun k hk => by
    by_cases q1 : k = .top T
    · exact .inl q1
    · by_cases q2 : k = .sub T 0 0
      · subst q2; exact .inr ⟨.top d, csub.2.2.2.1 hk, csub.1, .inl ⟨rfl, rfl⟩⟩
      · have := (hDo k q1 q2).1 hk
        exact .inr ⟨k, this.2.2, (hag k this.2.1).1, .inr ⟨rfl, this.1⟩⟩
  have hok : c'.Ok E.M w' := by
    refine ⟨fun b hb' => Nat.lt_of_lt_of_le (h.ok.hS b hb') hb.size, fun k hk => ?_, fun k k' hk hk' he => ?_⟩
    · rcases old k hk with rfl | ⟨k0, q1, q2, _⟩
      · rw [ctop.1]; exact ⟨h.below.mine (Nat.le_refl _), hbn, fun hS => by have := h.ok.hS _ hS; omega⟩
      · rw [q2]; exact ⟨(h.ok.hD _ q1).1, Nat.lt_of_lt_of_le (h.ok.hD _ q1).2.1 hb.size, (h.ok.hD _ q1).2.2⟩
    · rcases old k hk with rfl | ⟨k0, q1, q2, q3⟩ <;> rcases old k' hk' with rfl | ⟨k1, p1, p2, p3⟩
      · rfl
      · rw [ctop.1, p2] at he; have := (h.ok.hD _ p1).2.1; omega
      · rw [ctop.1, q2] at he; have := (h.ok.hD _ q1).2.1; omega
      · rw [q2, p2] at he
        have e0 := h.ok.inj _ _ q1 p1 he
        rcases q3 with ⟨r1, r2⟩ | ⟨r1, r2⟩ <;> rcases p3 with ⟨s1, s2⟩ | ⟨s1, s2⟩
        · rw [r1, s1]
        · exact absurd (by rw [s1, ← e0, r2]; rfl) s2
        · exact absurd (by rw [r1, e0, s2]; rfl) r2
        · rw [r1, s1, e0]
  have hSm : Same c.S w w' := fun b hS => hb.block b (h.ok.hS b hS)
  have hrep : HRep P w' c' T (.row e [(0, e')] [[.sl es']]) := by
    refine ⟨[c.hd (.top d)], ctop.2.2.1, by omega, by simp [h1], ?_, fun b hb' => ?_, fun i j pv hg => ?_, fun i j pv hg => ?_⟩
    · rw [ctop.2.1]
      refine ⟨by simp [h1], .inr ⟨w.heap.size, 1, #[c.hd (.top d)], rfl, Nat.zero_le _, hnew, Nat.le_refl _, by unfold maxLen; omega, by simp [h1], by simp [h1]⟩⟩
    · rw [ctop.2.1] at hb'
      simp [Value.ownBlock] at hb'; subst hb'
      exact ⟨ctop.2.2.2, ctop.1⟩
    all_goals
      have hij : i = 0 ∧ j = 0 := by
        have := getE_lt (k := 1) (by simp) hg
        simp at this; omega
      obtain ⟨rfl, rfl⟩ := hij
      simp [getE] at hg
      subst hg
    · simpa [h1] using hone
    · simp only [Nat.zero_mul, Nat.add_zero, List.getD_cons_zero]
      show CellRep P w' c' T [(0, e')] 0 0 (.sl es') (c.hd (.top d))
      unfold CellRep
      simp only [Jat, Nat.beq_refl, if_true]
      refine ⟨csub.2.1.symm, es', xsd, rfl, ?_⟩
      have k1 : RowRep P w' c (.top d) e' es' (fun _ _ pv v => RF w' c.S pv v) xsd := RowRep.keep (c := c) (c' := c) (Agree.refl c _) (fun q => ⟨hb.block _ (h.ok.hD _ q).2.1, q⟩) (fun _ _ _ _ q => RF.same hSm (fun _ h => h) q) rd
      exact RowRep.retag (c := c) (c' := c') csub.1 csub.2.1 csub.2.2.1 csub.2.2.2.2 (fun _ _ _ _ _ q => q) k1
  have hrv : RV P w' c' (.row (.top T) e) (.slice (some ⟨w.heap.size, 0, none⟩) 1 1) := by
    obtain ⟨xs', r'⟩ := hrep
    have := RV.row (P := P) (w := w') (c := c') (.top T) e r'.ty r'.hd_one
    rwa [ctop.2.1] at this
  refine does_mut hd (.inl hexec) (c' := c') ?_ hrv
  have notp : ∀ k, takeK d T k = false → k.tag ≠ d ∧ k.tag ≠ T := fun k hk => by
    simp only [takeK, Bool.or_eq_false_iff] at hk
    exact ⟨ofTag_ff.1 hk.1, ofTag_ff.1 hk.2⟩
  have isp : ∀ k, takeK d T k = true → k.tag = d ∨ k.tag = T := fun k hk => by
    simp only [takeK, Bool.or_eq_true] at hk
    exact hk.imp ofTag_iff.1 ofTag_iff.1
  refine h.step (c' := c') (takeK d T) (fun q => q = T ∨ q = d) (h.below.below hb) hok hSm (fun _ h => h) h.sup (fun k hk hp => ?_) (fun k hk => hag k (notp k hk).2) (fun k hDk hx => ⟨hb.block _ (h.ok.hD k hDk).2.1, (hDo k (by rintro rfl; exact hx (.inl rfl)) (by rintro rfl; exact hx (.inl rfl))).2 ⟨fun q => hx (.inr q), fun q => hx (.inl q), hDk⟩⟩)
    (fun k hk => (isp k hk).symm) rfl (fun g' o' hx hg' => ?_) (fun g' o' hx hg' => ?_)
  · rcases isp k hp with q | q <;> omega
  · simp only [Res.base, List.foldl_cons, List.foldl_nil, hget_put] at hg'
    rwa [if_neg (fun q => hx (.inl q))] at hg'
  · simp only [Res.base, List.foldl_cons, List.foldl_nil, hget_put] at hg'
    split at hg'
    · rename_i q
      injection hg' with hg'
      subst hg' q
      exact hrep
    · rename_i q
      rcases hx with hx | hx
      · exact absurd hx q
      · subst hx
        rw [hget_kill] at hg'
        have : takeK g' T (.top g') = true := by simp [takeK, ofTag, Key.tag]
        rw [if_pos this] at hg'
        cases hg'
end
end Go.VI
