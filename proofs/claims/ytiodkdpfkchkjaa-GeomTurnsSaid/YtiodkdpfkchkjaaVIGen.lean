/- The words in which a program prints its proofs. -/
import Derived.Test.YtiodkdpfkchkjaaVIStep
set_option linter.unusedVariables false
set_option linter.unusedSimpArgs false
set_option linter.unusedSectionVars false
namespace Go.VI
open Go.RowKit
abbrev vI (n : Int) : PV := .lit (.int .i64 n)
abbrev vK (k : IntKind) (n : Int) : PV := .lit (.int k n)
abbrev vB (b : Bool) : PV := .lit (.bool b)
abbrev vS (s : ByteArray) : PV := .lit (.string s)
abbrev vU : PV := .lit undef
def cI (n : Int) : List PV := [vI n]
def cK (k : IntKind) (n : Int) : List PV := [vK k n]
def cB (b : Bool) : List PV := [vB b]
def cStr (s : ByteArray) : List PV := [vS s]
def cS {α : Type} (c : α → List PV) (l : List α) : List PV := [.sl (l.map c)]
theorem idx_lt0 {α : Type} {l : List α} {i : Int} {x : α} {n : Nat} (h : idx l i = some x) (hn : l.length = n) : i < n := by
  obtain ⟨h0, h1⟩ := idxS h
  have := (List.getElem?_eq_some_iff.1 h1).1
  omega
theorem iteN {α : Type} {b : Bool} {x : Option α} {r : α} (h : (if b then x else none) = some r) : b = true ∧ x = some r := by
  split at h
  · exact ⟨by assumption, h⟩
  · cases h
section
variable {G : Prg} {cd : Code} {σ τ X : St} {K : PX → St → Prop}
theorem leafC {σe : St} (hτ : Sub X τ) (h : atS σe X = σe) : Sub σe τ := sub_trans (sub_map h) hτ
theorem th_normalS {b : Code} (hτ : Sub X τ) (σ' : St) (h : atS σ' X = σ') (next : SEM G b σ' K) : thenK G b K .normal τ := sem_sub (leafC hτ h) next
theorem sem_exitS (i : Nat) (hk : knd cd = 7) (hi : cId cd = i) (next : ∀ τ, Sub σ τ → K (.exit i) τ) : SEM G cd σ K := sem_exit i hk hi (next _ (sub_refl _))
theorem sem_retS (hk : knd cd = 8) (next : ∀ τ, Sub σ τ → K .ret τ) : SEM G cd σ K := sem_ret hk (next _ (sub_refl _))
theorem sem_skipS (hk : knd cd = 0) (next : ∀ τ, Sub σ τ → K .normal τ) : SEM G cd σ K := sem_skip hk (next _ (sub_refl _))
theorem evs_endS {ops : Array Oper} {k : Nat} {K : St → Prop} (h : Nat.ble ops.size k = true) (next : ∀ τ, Sub σ τ → K τ) : EVS G ops k σ K := evs_end h (next _ (sub_refl _))
theorem evo_endS {ops : Array Oper} {k : Nat} {K : St → Prop} (h : Nat.ble ops.size k = true) (next : ∀ τ, Sub σ τ → K τ) : EVO G ops k σ K := evo_end h (next _ (sub_refl _))
theorem lk_nextS {S R : Type} {emb : S → St} {out : R → PX × St} {s' : S} (hτ : Sub X τ) (h : atS (emb s') X = emb s') : LK emb out (.inl s') .normal τ := ⟨rfl, leafC hτ h⟩
theorem lk_outS {S R : Type} {emb : S → St} {out : R → PX × St} {r : R} {px : PX} (hτ : Sub X τ) (e : (out r).1 = px) (h : atS (out r).2 X = (out r).2) : LK emb out (.inr r) px τ := ⟨e.symm, leafC hτ h⟩
def isN : PX → Bool
  | .normal => true
  | _ => false
theorem sem_loopS {S R : Type} (emb : S → St) (out : R → PX × St) (body : S → Option (S ⊕ R)) (s : S) (r : R) (hk : knd cd = 6) (h0 : atS (emb s) σ = emb s) (h : loopT body s = some r)
    (hbody : ∀ s t, body s = some t → SEM G (cL cd) (emb s) (LK emb out t)) (hout : ∀ r, isN (out r).1 = false) (hK : ∀ τ, Sub (out r).2 τ → K (out r).1 τ) : SEM G cd σ K :=
  sem_loop emb out body s r hk h0 h hbody (fun r e => by have := hout r; rw [e] at this; cases this) hK
def JK {J T : Type} (σj : J → St) (kN : J → Option T) (t : T) (K : PX → St → Prop) : PX → St → Prop
  | .normal, τ => ∃ j, kN j = some t ∧ Sub (σj j) τ
  | .exit i, τ => K (.exit i) τ
  | .ret, τ => K .ret τ
theorem jk_normal {J T : Type} {σj : J → St} {kN : J → Option T} {t : T} (j : J) (h : kN j = some t) (hτ : Sub X τ) (hs : atS (σj j) X = σj j) : JK σj kN t K .normal τ := ⟨j, h, leafC hτ hs⟩
theorem jk_exit {J T : Type} {σj : J → St} {kN : J → Option T} {t : T} {i : Nat} (h : K (.exit i) τ) : JK σj kN t K (.exit i) τ := h
theorem jk_ret {J T : Type} {σj : J → St} {kN : J → Option T} {t : T} (h : K .ret τ) : JK σj kN t K .ret τ := h
theorem sem_seqJ {J T : Type} (σj : J → St) (kN : J → Option T) (t : T) (hk : knd cd = 3) (hrest : ∀ j, kN j = some t → SEM G (cR cd) (σj j) K) (hfirst : SEM G (cL cd) σ (JK σj kN t K)) : SEM G cd σ K := by
  refine sem_seq hk (sem_mono (fun px τ h => ?_) hfirst)
  cases px with
  | normal => obtain ⟨j, hj, hs⟩ := h; exact sem_sub hs (hrest j hj)
  | exit i => exact h
  | ret => exact h
/-- how a body ends: what is returned, as whoever gets it sees it -/
def RV1 (P : Program) (l : List ResultVar) (r : PV) (x : PX) (σ : St) : Prop := (match x with | .exit _ => False | _ => True) ∧ ∃ σ0 r0, Sub σ0 σ ∧ pres P σ0 l = some r0 ∧ PV.view r0 = r
theorem rv_ret {P : Program} {l : List ResultVar} {r : PV} (hτ : Sub X τ) (h : (pres P X l).map PV.view = some r) : RV1 P l r .ret τ := by
  obtain ⟨r0, h1, h2⟩ := Option.map_eq_some_iff.1 h
  exact ⟨trivial, X, r0, hτ, h1, h2⟩
theorem rv_normal {P : Program} {l : List ResultVar} {r : PV} (hτ : Sub X τ) (h : (pres P X l).map PV.view = some r) : RV1 P l r .normal τ := by
  obtain ⟨r0, h1, h2⟩ := Option.map_eq_some_iff.1 h
  exact ⟨trivial, X, r0, hτ, h1, h2⟩
/-- a new row is returned -/
def RO1 (P : Program) (l : List ResultVar) (e : Nat) (es : List (List PV)) (x : PX) (σ : St) : Prop := (match x with | .exit _ => False | _ => True) ∧ ∃ σ0 g, Sub σ0 σ ∧ pres P σ0 l = some (.own g e es)
def ownOf : Option PV → Option (Nat × List (List PV))
  | some (.own _ e es) => some (e, es)
  | _ => none
theorem ownOf_spec {p : Option PV} {e : Nat} {es : List (List PV)} (h : ownOf p = some (e, es)) : ∃ g, p = some (.own g e es) := by
  unfold ownOf at h
  split at h
  · simp only [Option.some.injEq, Prod.mk.injEq] at h
    obtain ⟨rfl, rfl⟩ := h
    exact ⟨_, rfl⟩
  · cases h
theorem ro_ret {P : Program} {l : List ResultVar} {e : Nat} {es : List (List PV)} (hτ : Sub X τ) (h : ownOf (pres P X l) = some (e, es)) : RO1 P l e es .ret τ := by
  obtain ⟨g, hg⟩ := ownOf_spec h
  exact ⟨trivial, X, g, hτ, hg⟩
theorem ro_normal {P : Program} {l : List ResultVar} {e : Nat} {es : List (List PV)} (hτ : Sub X τ) (h : ownOf (pres P X l) = some (e, es)) : RO1 P l e es .normal τ := by
  obtain ⟨g, hg⟩ := ownOf_spec h
  exact ⟨trivial, X, g, hτ, hg⟩
end

/-- the frame at a call's beginning -/
theorem inv_start {P : Program} {w : World} {S : Nat → Prop} {N : Nat} {args : List PV} {vals : List Value} (hS : ∀ b, S b → b < w.heap.size) (hlen : vals.length = args.length) (hl : args.length ≤ N) (hrep : ∀ (i : Nat) pv, args[i]? = some pv → RF w S pv (vals.getD i undef)) :
    Inv P ⟨w, fun b => w.heap.size ≤ b, fun _ h => h⟩ S N (initSt 0 args) { tmps := vals.toArray ++ Array.replicate (N - vals.toArray.size) undef, defers := [] } w ⟨S, fun _ => 0, fun _ _ => False⟩ := by
  have hsz : (vals.toArray ++ Array.replicate (N - vals.toArray.size) undef).size = N := by simp; omega
  refine ⟨⟨rfl, rfl, rfl, Nat.le_refl _, fun _ _ _ => rfl⟩, ⟨hS, fun _ _ h => h.elim, fun _ _ _ _ h => h.elim⟩, fun _ h => h, fun _ h => .inl h, fun i => ?_, hsz, rfl⟩
  rw [initSt_get]
  simp only [Nat.zero_le, if_true, Nat.sub_zero]
  cases hi : args[i]? with
  | none => exact .free _ _ (.undef _)
  | some pv =>
    have hlt : i < vals.length := by
      rw [hlen]
      rcases Nat.lt_or_ge i args.length with q | q
      · exact q
      · rw [List.getElem?_eq_none q] at hi; cases hi
    refine .free _ _ ?_
    have := hrep i pv hi
    simp only [Option.getD_some]
    rw [Array.getD_eq_getD_getElem?, Array.getElem?_append_left (by simpa using hlt)]
    simpa [List.getD_eq_getElem?_getD] using this
section
variable (G : Prg) {f : FuncId} {fn : Func} {args : List PV}
theorem pc_of {r : PV} (Kr : PX → St → Prop) (hf : G.P.funcs[f]? = some fn) (hb : fn.body.isSome = true) (hname : (fn.name == "runtime.NumGoroutine") = false)
    (hd : dstOk fn.ntmps (codeOf fn) = true) (hl : Nat.ble args.length fn.ntmps = true) (h : SEM G (codeOf fn) (initSt 0 args) Kr)
    (hx : ∀ i τ, ¬ Kr (.exit i) τ) (hr : ∀ px τ, Kr px τ → ∃ σ0 r0, Sub σ0 τ ∧ pres G.P σ0 fn.results.toList = some r0 ∧
      ∀ (w : World) (w' : World) (S : Nat → Prop) (c' : Ctx) (v : Value), (∀ b, S b → c'.S b) → (∀ b, c'.S b → S b ∨ w.heap.size ≤ b) → c'.Ok (fun b => w.heap.size ≤ b) w' → RV G.P w' c' r0 v →
        ∃ c2 : Ctx, (∀ b, S b → c2.S b) ∧ (∀ b, c2.S b → S b ∨ w.heap.size ≤ b) ∧ c2.Ok (fun b => w.heap.size ≤ b) w' ∧ RV G.P w' c2 r v) : PCalls G.P f args r := by
  obtain ⟨cd, hcd⟩ := Option.isSome_iff_exists.1 hb
  have e : codeOf fn = cd := by unfold codeOf; rw [hcd]; rfl
  rw [e] at hd h
  have hl := Nat.le_of_ble_eq_true hl
  refine ⟨by unfold enters; simp [hf, hcd, hname], fun w S vals hS hlen hrep => ?_⟩
  refine calls_of_wp hf hcd ?_
  refine wp_mono (h _ _ _ _ _ _ hd (inv_start hS hlen hl hrep)) fun e a' w' he => ?_
  obtain ⟨px, σ', c', hl, hk, hi⟩ := he
  obtain ⟨σ0, r0, hs, hp, hv⟩ := hr _ _ hk
  have hi0 := sub_inv hs hi
  obtain ⟨v, q1, q2⟩ := pres_ok hi0 hp
  obtain ⟨c2, s1, s2, s3, s4⟩ := hv w w' S c' v hi.sub hi.sup hi.ok q2
  have fin : bodyPost G.P fn (fun e w' => ∃ v c', e = .returned v ∧ Below w.heap.size w w' ∧ (∀ b, S b → c'.S b) ∧ (∀ b, c'.S b → S b ∨ w.heap.size ≤ b) ∧ c'.Ok (fun b => w.heap.size ≤ b) w' ∧ RV G.P w' c' r v) .ret a' w' :=
    ⟨hi.defers, v, q1, v, c2, rfl, ⟨hi.below.os, hi.below.tape, hi.below.output, hi.below.size, fun k hk => hi.below.block k hk (Nat.not_le.2 hk)⟩, s1, s2, s3, s4⟩
  cases px <;> cases e <;> simp only [PX.like] at hl
  · exact fin
  · exact absurd hk (hx _ _)
  · exact fin
theorem pc_view {r : PV} (hf : G.P.funcs[f]? = some fn) (hb : fn.body.isSome = true) (hname : (fn.name == "runtime.NumGoroutine") = false)
    (hd : dstOk fn.ntmps (codeOf fn) = true) (hl : Nat.ble args.length fn.ntmps = true) (h : SEM G (codeOf fn) (initSt 0 args) (RV1 G.P fn.results.toList r)) : PCalls G.P f args r := by
  refine pc_of G _ hf hb hname hd hl h (fun i τ h => h.1) fun px τ h => ?_
  obtain ⟨-, σ0, r0, hs, hp, rfl⟩ := h
  refine ⟨σ0, r0, hs, hp, fun w w' S c' v h1 h2 hok hv => ⟨⟨fun b => c'.S b ∨ c'.blocks b, fun _ => 0, fun _ _ => False⟩, fun b hS => .inl (h1 b hS), fun b hb' => ?_, ⟨fun b hb' => ?_, fun _ _ h => h.elim, fun _ _ _ _ h => h.elim⟩, .free _ _ hv.view⟩⟩
  · rcases hb' with q | ⟨g, k, q1, rfl⟩
    · exact h2 b q
    · exact .inr (hok.hD g k q1).1
  · rcases hb' with q | ⟨g, k, q1, rfl⟩
    · exact hok.hS b q
    · exact (hok.hD g k q1).2.1
theorem pc_own {e : Nat} {es : List (List PV)} (hf : G.P.funcs[f]? = some fn) (hb : fn.body.isSome = true) (hname : (fn.name == "runtime.NumGoroutine") = false)
    (hd : dstOk fn.ntmps (codeOf fn) = true) (hl : Nat.ble args.length fn.ntmps = true) (h : SEM G (codeOf fn) (initSt 0 args) (RO1 G.P fn.results.toList e es)) : PCalls G.P f args (.own 0 e es) := by
  refine pc_of G _ hf hb hname hd hl h (fun i τ h => h.1) fun px τ h => ?_
  obtain ⟨-, σ0, g, hs, hp⟩ := h
  refine ⟨σ0, _, hs, hp, fun w w' S c' v h1 h2 hok hv => ?_⟩
  cases hv with
  | free _ _ hf => cases hf
  | own _ _ _ _ xs hk0 hk ho hb q1 q2 =>
    refine ⟨⟨c'.S, fun _ => c'.τ g, fun g' k => g' = 0 ∧ k = true ∧ c'.D g true⟩, h1, h2, ⟨hok.hS, fun g' k hg => hok.hD g true hg.2.2, fun g1 k1 g2 k2 q1 q2 _ => ⟨q1.1.trans q2.1.symm, q1.2.1.trans q2.2.1.symm⟩⟩, .own 0 e es v xs hk0 hk ho (fun b hb' => ?_) q1 q2⟩
    obtain ⟨r1, r2⟩ := hb b hb'
    exact ⟨⟨rfl, rfl, r1⟩, r2⟩
end
/-- a new row of words that lead nowhere -/
theorem fresh_own {α : Type} {c : α → List PV} {l : List α} {g e : Nat} (h : ∀ x, (c x).all (fun p => match p with | .lit _ => true | _ => false) = true) : PV.fresh (.own g e (l.map c)) = true := by
  rw [PV.fresh, List.all_eq_true]
  intro r hr
  obtain ⟨y, _, rfl⟩ := List.mem_map.1 hr
  exact h y
end Go.VI
