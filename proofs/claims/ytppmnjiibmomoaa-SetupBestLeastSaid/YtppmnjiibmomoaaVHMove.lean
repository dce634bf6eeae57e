/- A row of one's own is laid into a cell of another one. -/
import Derived.Test.YtppmnjiibmomoaaVHCut
set_option linter.unusedVariables false
set_option linter.unusedSimpArgs false
set_option linter.unusedSectionVars false
namespace Go.VI
open Go.RowKit

section
variable {P : Program} {E : Ent} {S0 : Nat → Prop} {N : Nat} {σ : St} {a : Act} {w : World} {c : Ctx}
/-- the row d is now the row of the cell (i, j) of g -/
def Ctx.move (c : Ctx) (d g i j : Nat) : Ctx :=
  ⟨c.S, fun k => if k = .sub g i j then c.τ (.top d) else c.τ k, fun k => if k = .sub g i j then c.hd (.top d) else c.hd k, fun k => if k = .sub g i j then c.ty (.top d) else c.ty k, fun k => if k = .sub g i j then c.D (.top d) else k.tag ≠ d ∧ c.D k⟩
def moveK (d g : Nat) (k : Key) : Bool := ofTag d k || subOf g k
theorem move_ok {o : Oper} {t : TypeId} {ad x : Operand} {e e' d g i off : Nat} {J : List (Nat × Nat)} {es es' : List (List PV)} (ho : o.op = .store t ad x) (hagg : tAgg P t = some false) (hsz1 : tSize P t = 1) (hg : g < PIN ∨ True) (hd1 : d < PIN) (hne : d ≠ g)
    (ha : pev σ ad = .rptr (.top g) e i off) (hx : pev σ x = .row (.top d) e') (hrg : σ.hget g = some (.row e J es)) (hrd : σ.hget d = some (.row e' [] es')) (hi : i < es.length) (hoff : off < tSize P e) (hJ : Jat J off = some e')
    (h : Inv P E S0 N σ a w c) (hd : ∀ k, o.dst = some k → k < N) :
    Does P E S0 N o a w (Res.put σ o.dst ⟨[moveK d g], [(g, .row e J (setRow es i off [.sl es']))], .lit undef⟩) := by
  have rp := h.ev ad
  have rx := h.ev x
  rw [ha] at rp
  rw [hx] at rx
  have hP : a.eval ad = .pointer (some ⟨c.τ (.top g), i * tSize P e + off, none⟩) := by
    generalize a.eval ad = X at rp
    cases rp with
    | free _ _ hf => cases hf
    | rptr => rfl
  have hX : a.eval x = c.hd (.top d) := by
    generalize a.eval x = X at rx
    cases rx with
    | free _ _ hf => cases hf
    | row => rfl
  obtain ⟨xs, r⟩ := h.objs g _ hrg
  obtain ⟨xsd, rd⟩ := h.objs d _ hrd
  have hone := rd.hd_one
  rcases r.own.2 with ⟨h0, hz⟩ | ⟨g2, cap, cur, h0, hb2, hg2, hnc, hcm, hcs, htake⟩
  · omega
  obtain ⟨hD, hτ⟩ := r.blk g2 (by rw [h0]; rfl)
  rw [← hτ] at hg2
  have hcell1 : (c.hd (.top d)).cells = #[c.hd (.top d)] := cells_of_one hone
  have hfit : i * tSize P e + off + (c.hd (.top d)).cells.size ≤ cur.size := by
    have q1 := Nat.mul_le_mul_right (tSize P e) (show i + 1 ≤ cap by omega)
    rw [Nat.succ_mul] at q1
    rw [hcell1]; simp; omega
  have hrun := run_storeVar (P := P) (t := t) (info_of_agg hagg) (o := i * tSize P e + off) (X := c.hd (.top d)) hg2 (by rw [hcell1, hsz1]; rfl) hfit (by rw [hcell1]; simpa using hone)
  have hexec : (execOp a.eval o).run P w = .ok .skip (w.setRow (c.τ (.top g)) (splice cur (i * tSize P e + off) (c.hd (.top d)).cells.toList)) := by
    unfold execOp
    simp only [ho, hP, hX, Instr.storeAt, Instr.sureAddr, Sem.run_bind, Sem.run_pure, Result.andThen_ok, hrun]
  have hfit' : i * tSize P e + off + (c.hd (.top d)).cells.toList.length ≤ cur.size := by simpa using hfit
  have hnl : (c.hd (.top d)).cells.toList = [c.hd (.top d)] := by rw [hcell1]
  generalize hw' : w.setRow (c.τ (.top g)) (splice cur (i * tSize P e + off) (c.hd (.top d)).cells.toList) = w' at hexec
  have hoth : ∀ b, b ≠ c.τ (.top g) → w'.heap[b]? = w.heap[b]? := fun b hb' => by rw [← hw']; exact setRow_other w _ b _ hb'
  have hDg := h.ok.hD _ hD
  have hSm : Same c.S w w' := fun b hS => hoth b fun e => hDg.2.2 (e ▸ hS)
  have hsize : w'.heap.size = w.heap.size := by rw [← hw']; simp [World.setRow]
  have hh' : w'.heap[c.τ (.top g)]? = some (.cells (splice cur (i * tSize P e + off) (c.hd (.top d)).cells.toList) e (0, 0)) := by rw [← hw']; exact setRow_heap w _ cur _ e (0, 0) hg2
  let c' := c.move d g i off
  have hsub : c'.τ (.sub g i off) = c.τ (.top d) ∧ c'.hd (.sub g i off) = c.hd (.top d) ∧ c'.ty (.sub g i off) = c.ty (.top d) ∧ (c'.D (.sub g i off) ↔ c.D (.top d)) := by simp [c', Ctx.move]
  have hag : ∀ k, k ≠ .sub g i off → Agree c c' k := fun k hk => by simp [Agree, c', Ctx.move, hk]
  have hDo : ∀ k, k ≠ .sub g i off → (c'.D k ↔ k.tag ≠ d ∧ c.D k) := fun k hk => by simp [c', Ctx.move, hk]
  have hok : c'.Ok E.M w' := by
    refine ⟨fun b hb => by rw [hsize]; exact h.ok.hS b hb, fun k hk => ?_, fun k k' hk hk' he => ?_⟩
    · rw [hsize]
      by_cases e1 : k = .sub g i off
      · subst e1; rw [hsub.1]; exact h.ok.hD _ (hsub.2.2.2.1 hk)
      · rw [(hag k e1).1]; exact h.ok.hD _ ((hDo k e1).1 hk).2
    · by_cases e1 : k = .sub g i off <;> by_cases e2 : k' = .sub g i off
      · rw [e1, e2]
      · subst e1
        rw [hsub.1, (hag k' e2).1] at he
        have := h.ok.inj _ _ (hsub.2.2.2.1 hk) ((hDo k' e2).1 hk').2 he
        exact absurd (by rw [← this]; rfl) ((hDo k' e2).1 hk').1
      · subst e2
        rw [hsub.1, (hag k e1).1] at he
        have := h.ok.inj _ _ ((hDo k e1).1 hk).2 (hsub.2.2.2.1 hk') he
        exact absurd (by rw [this]; rfl) ((hDo k e1).1 hk).1
      · rw [(hag k e1).1, (hag k' e2).1] at he
        exact h.ok.inj _ _ ((hDo k e1).1 hk).2 ((hDo k' e2).1 hk').2 he
  have hrep : HRep P w' c' g (.row e J (setRow es i off [.sl es'])) := by
    have key := r.upd (w' := w') (R' := CellRep P w' c' g J) (i := i) (off := off) (ws := [.sl es']) (c0 := cur) (c1 := splice cur (i * tSize P e + off) (c.hd (.top d)).cells.toList) (T := e) (by simp; omega) hi hg2 hh' (splice_size hfit')
      (fun m hm => by rw [splice_get hfit', if_neg (by rw [hnl]; simpa using hm)]) (fun a' b' pv v hnew hc => ?_) (fun j pv hj => ?_)
    · obtain ⟨xs', r'⟩ := key
      exact ⟨xs', r'.retag (c' := c') (k' := .top g) (hag (.top g) (by simp)).1 (hag (.top g) (by simp)).2.1 (hag (.top g) (by simp)).2.2 (fun q => (hDo (.top g) (by simp)).2 ⟨fun q => hne q.symm, q⟩) fun _ _ _ _ _ q => q⟩
    · unfold CellRep at hc ⊢
      split at hc
      · exact hc.same hSm fun _ h => h
      · rename_i e2 hj2
        obtain ⟨h1, es2, xs2, h2, r2⟩ := hc
        have hk : (Key.sub g a' b') ≠ .sub g i off := by
          intro q; injection q with _ q1 q2
          exact hnew ⟨q1, by omega, by simp; omega⟩
        refine ⟨h1.trans (hag _ hk).2.1.symm, es2, xs2, h2, RowRep.keep (c := c) (c' := c') (hag _ hk) (fun q => ⟨hoth _ fun q2 => ?_, (hDo _ hk).2 ⟨fun q3 => hne q3.symm, q⟩⟩) (fun _ _ _ _ q => RF.same hSm (fun _ h => h) q) r2⟩
        exact Key.noConfusion (h.ok.inj _ _ q hD q2)
    · match j, hj with
      | 0, hj =>
        simp at hj
        subst hj
        have hv : (splice cur (i * tSize P e + off) (c.hd (.top d)).cells.toList).getD (i * tSize P e + off + 0) undef = c.hd (.top d) := by
          rw [splice_get hfit', if_pos ⟨by omega, by rw [hnl]; simp⟩, hnl]
          simp
        rw [hv]
        refine ⟨?_, hone⟩
        unfold CellRep
        rw [Nat.add_zero, hJ]
        refine ⟨hsub.2.1.symm, es', xsd, rfl, ?_⟩
        have k1 : RowRep P w' c (.top d) e' es' (fun _ _ pv v => RF w' c.S pv v) xsd := RowRep.keep (c := c) (c' := c) (Agree.refl c _) (fun q => ⟨hoth _ fun q2 => by have := h.ok.inj _ _ q hD q2; injection this with this; exact hne this, q⟩) (fun _ _ _ _ q => RF.same hSm (fun _ h => h) q) rd
        exact RowRep.retag (c := c) (c' := c') hsub.1 hsub.2.1 hsub.2.2.1 hsub.2.2.2.2 (fun _ _ _ _ _ q => q) k1
  refine does_mut (v := undef) (c' := c') hd (.inr ⟨hexec, rfl⟩) ?_ (.free _ _ (.lit _))
  have notp : ∀ k, moveK d g k = false → k.tag ≠ d ∧ k ≠ .sub g i off := fun k hk => by
    simp only [moveK, Bool.or_eq_false_iff] at hk
    exact ⟨ofTag_ff.1 hk.1, by rintro rfl; simp [subOf] at hk⟩
  refine h.step (c' := c') (moveK d g) (fun q => q = g ∨ q = d) ⟨?_, ?_, ?_, by rw [hsize]; exact h.below.size, fun k hk hm => (hoth k fun q => hm (q ▸ hDg.1)).trans (h.below.block k hk hm)⟩ hok hSm (fun _ h => h) h.sup (fun k hk hp => ?_) (fun k hk => hag k (notp k hk).2) (fun k hDk hx => ⟨hoth _ fun q => hx (.inl (by rw [h.ok.inj _ _ hDk hD q]; rfl)), (hDo k (by rintro rfl; exact hx (.inl rfl))).2 ⟨fun q => hx (.inr q), hDk⟩⟩)
    (fun k hk => ?_) rfl (fun g' o' hx hg' => ?_) (fun g' o' hx hg' => ?_)
  · rw [← hw']; exact h.below.os
  · rw [← hw']; exact h.below.tape
  · rw [← hw']; exact h.below.output
  · cases k with
    | sub => rfl
    | top q =>
      simp only [moveK, subOf, Bool.or_false] at hp
      have := ofTag_iff.1 hp
      simp only [Key.tag] at this hk
      omega
  · simp only [moveK, Bool.or_eq_true] at hk
    rcases hk with q | q
    · exact .inr (ofTag_iff.1 q)
    · cases k with
      | top => cases q
      | sub q1 _ _ => exact .inl (Nat.eq_of_beq_eq_true q)
  · simp only [Res.base, List.foldl_cons, List.foldl_nil, hget_put] at hg'
    rwa [if_neg (fun q => hx (.inl q))] at hg'
  · simp only [Res.base, List.foldl_cons, List.foldl_nil, hget_put] at hg'
    split at hg'
    · rename_i q
      injection hg' with hg'
      subst hg' q
      exact hrep
    · rename_i q
      rcases hx with hx | hx
      · exact absurd hx q
      · subst hx
        rw [hget_kill] at hg'
        have : moveK g' g (.top g') = true := by simp [moveK, ofTag, Key.tag]
        rw [if_pos this] at hg'
        cases hg'
end
end Go.VI
