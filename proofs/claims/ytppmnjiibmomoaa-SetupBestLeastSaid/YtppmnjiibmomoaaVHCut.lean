/- A row of one's own is cut: x[:n]. -/
import Derived.Test.YtppmnjiibmomoaaVHGen
set_option linter.unusedVariables false
set_option linter.unusedSimpArgs false
set_option linter.unusedSectionVars false
namespace Go.VI
open Go.RowKit

section
variable {P : Program} {E : Ent} {S0 : Nat → Prop} {N : Nat} {σ : St} {a : Act} {w : World} {c : Ctx}

theorem take_getE {es : List (List PV)} {n i j : Nat} {pv : PV} (hg : getE (es.take n) i j = some pv) : i < n ∧ getE es i j = some pv := by
  unfold getE at hg ⊢
  rw [List.getElem?_take] at hg
  split at hg
  · exact ⟨by assumption, hg⟩
  · simp at hg

theorem cut_ok {o : Oper} {t e g n : Nat} {x y : Operand} {J : List (Nat × Nat)} {es : List (List PV)} (ho : o.op = .slice t x none (some y) none) (ht : tElem P t = some e) (hinfo : (P.info? e).isSome = true) (hg : g < PIN)
    (hx : pev σ x = .row (.top g) e) (hy : pidx (pev σ y) = some n) (hr : σ.hget g = some (.row e J es)) (hn : n ≤ es.length) (h : Inv P E S0 N σ a w c) (hd : ∀ k, o.dst = some k → k < N) :
    Does P E S0 N o a w (Res.put σ o.dst ⟨[ofTag g], [(g, .row e J (es.take n))], .row (.top g) e⟩) := by
  have rx := h.ev x
  rw [hx] at rx
  obtain ⟨k, ey⟩ := int_of_pidx (h.ev y) hy
  have hX : a.eval x = c.hd (.top g) := by
    generalize a.eval x = X at rx
    cases rx with
    | free _ _ hf => cases hf
    | row => rfl
  obtain ⟨xs, r⟩ := h.objs g _ hr
  have hu := tElem_some ht
  have hlen : (es.take n).length = n := by simp; omega
  -- the run
  have run : ∀ (A : Option Addr) (m cc : Nat), n ≤ m → m ≤ cc → (Instr.sliceAt t (.slice A m cc) none (some (.int k n)) none).run P w = .ok (.slice (if cc = 0 then A else A.map (·.add (0 * tSize P e))) (n - 0) (cc - 0)) w := by
    intro A m cc h2 h3
    have bnd : (Instr.sliceBounds true m cc none (some (.int k n)) none).run P w = .ok (0, n, cc) w := by
      have := run_sliceBound (P := P) (w := w) k (n : Int) cc .sliceAcap (by omega) (by omega)
      simp [Instr.sliceBounds, this]
    simp only [Instr.sliceAt, Instr.slice, Sem.run_bind, run_underlying hu, Result.andThen_ok, bnd, run_sizeOf (Option.isSome_iff_exists.1 hinfo), Sem.run_pure]
  have hexec : ∀ v, (Instr.sliceAt t (a.eval x) none (some (.int k n)) none).run P w = .ok v w → (execOp a.eval o).run P w = .ok (.value v) w := by
    intro v hrun
    unfold execOp
    simp only [ho, Sem.run_bind, Sem.run_pure, Option.map_none, Option.map_some, ey, hrun, Result.andThen_ok]
  have fin : ∀ v', (execOp a.eval o).run P w = .ok (.value v') w → w.ownsRow 0 e (tSize P e) v' n (xs.take (n * tSize P e)) → (∀ b, v'.ownBlock = some b → c.D (.top g) ∧ c.τ (.top g) = b) →
      Does P E S0 N o a w (Res.put σ o.dst ⟨[ofTag g], [(g, .row e J (es.take n))], .row (.top g) e⟩) := by
    intro v' hrun hown hblk
    let c' : Ctx := ⟨c.S, c.τ, fun k => if k = .top g then v' else c.hd k, c.ty, c.D⟩
    have hhd : c'.hd (.top g) = v' := by simp [c']
    have hag : ∀ k, k ≠ .top g → Agree c c' k := fun k hk => ⟨rfl, by simp [c', hk], rfl⟩
    have hxs : ∀ i j pv, getE (es.take n) i j = some pv → (xs.take (n * tSize P e)).getD (i * tSize P e + j) undef = xs.getD (i * tSize P e + j) undef := by
      intro i j pv hg
      obtain ⟨q1, q2⟩ := take_getE hg
      rw [take_getD _ _ _ (idx_lt q1 (getE_lt r.len q2).2)]
    have hrep : HRep P w c' g (.row e J (es.take n)) := by
      refine ⟨xs.take (n * tSize P e), r.ty, r.pos, fun l hl => r.len l (List.mem_of_mem_take hl), by rw [hhd, hlen]; exact hown, fun b hb => by rw [hhd] at hb; exact hblk b hb, fun i j pv hg => by rw [hxs i j pv hg]; exact r.one i j pv (take_getE hg).2, fun i j pv hgE => ?_⟩
      rw [hxs i j pv hgE]
      have hc := r.rep i j pv (take_getE hgE).2
      unfold CellRep at hc ⊢
      split at hc
      · exact hc
      · obtain ⟨h1, es', xs', h2, r'⟩ := hc
        exact ⟨h1.trans (hag (.sub g i j) (by simp)).2.1.symm, es', xs', h2, RowRep.retag (c := c) (c' := c') rfl (hag (.sub g i j) (by simp)).2.1 rfl (fun h => h) (fun _ _ _ _ _ q => q) r'⟩
    have hrv : RV P w c' (.row (.top g) e) v' := by
      obtain ⟨xs', r'⟩ := hrep
      have := RV.row (P := P) (w := w) (c := c') (.top g) e r'.ty r'.hd_one
      rwa [hhd] at this
    refine does_mut hd (.inl hrun) (c' := c') ?_ hrv
    refine h.step (c' := c') (ofTag g) (· = g) h.below ⟨h.ok.hS, h.ok.hD, h.ok.inj⟩ (fun _ _ => rfl) (fun _ h => h) h.sup (fun k hk hp => ?_) (fun k hk => hag k (by rintro rfl; rw [ofTag_ff] at hk; exact hk rfl)) (fun k hD _ => ⟨rfl, hD⟩) (fun k hk => ofTag_iff.1 hk) rfl (fun g' o' hx hg' => ?_) (fun g' o' hx hg' => ?_)
    · rw [ofTag_iff.1 hp] at hk; omega
    · simp only [Res.base, List.foldl_cons, List.foldl_nil, hget_put] at hg'
      rwa [if_neg hx] at hg'
    · simp only [Res.base, List.foldl_cons, List.foldl_nil, hget_put] at hg'
      rw [if_pos hx] at hg'
      injection hg' with hg'
      subst hg' hx
      exact hrep
  rcases r.own.2 with ⟨h0, hz⟩ | ⟨g2, cap, cur, h0, hb2, hg2, hnc, hcm, hcs, htake⟩
  · have hn0 : n = 0 := by omega
    subst hn0
    have hrun := hexec _ (by rw [hX, h0]; exact run none 0 0 (Nat.le_refl _) (Nat.le_refl _))
    simp only [if_true, Nat.sub_self] at hrun
    exact fin _ hrun (by simpa using World.ownsRow_nil w 0 e (tSize P e)) fun b hb => by simp [Value.ownBlock] at hb
  · have hrun := hexec _ (by rw [hX, h0]; exact run (some ⟨g2, 0, none⟩) es.length cap hn hnc)
    have hadd : (if cap = 0 then (some ⟨g2, 0, none⟩ : Option Addr) else (some ⟨g2, 0, none⟩ : Option Addr).map (·.add (0 * tSize P e))) = some ⟨g2, 0, none⟩ := by
      split <;> simp [add_lit]
    rw [hadd] at hrun
    simp only [Nat.sub_zero] at hrun
    refine fin _ hrun ⟨?_, .inr ⟨g2, cap, cur, rfl, hb2, hg2, by omega, hcm, hcs, ?_⟩⟩ fun b hb => r.blk b (by rw [h0]; exact hb)
    · rw [List.length_take, r.own.1]
      have := Nat.mul_le_mul_right (tSize P e) hn
      omega
    · rw [← htake, List.take_take]
      have := Nat.mul_le_mul_right (tSize P e) hn
      congr 1
      omega
end
end Go.VI
