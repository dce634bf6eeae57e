/- The words in which a program prints its proofs. -/
import Derived.Test.YtppmnjiibmomoaaVHRen
set_option linter.unusedVariables false
set_option linter.unusedSimpArgs false
set_option linter.unusedSectionVars false
namespace Go.VI
open Go.RowKit
abbrev vI (n : Int) : PV := .lit (.int .i64 n)
abbrev vK (k : IntKind) (n : Int) : PV := .lit (.int k n)
abbrev vB (b : Bool) : PV := .lit (.bool b)
abbrev vS (s : ByteArray) : PV := .lit (.string s)
abbrev vU : PV := .lit undef
def cI (n : Int) : List PV := [vI n]
def cK (k : IntKind) (n : Int) : List PV := [vK k n]
def cB (b : Bool) : List PV := [vB b]
def cStr (s : ByteArray) : List PV := [vS s]
def cS {α : Type} (c : α → List PV) (l : List α) : List PV := [.sl (l.map c)]
def cM (m : List (Int × Int)) : List PV := [.fmap m]
theorem idx_lt0 {α : Type} {l : List α} {i : Int} {x : α} {n : Nat} (h : idx l i = some x) (hn : l.length = n) : i < n := by
  obtain ⟨h0, h1⟩ := idxS h
  have := (List.getElem?_eq_some_iff.1 h1).1
  omega
theorem iteN {α : Type} {b : Bool} {x : Option α} {r : α} (h : (if b then x else none) = some r) : b = true ∧ x = some r := by
  split at h
  · exact ⟨by assumption, h⟩
  · cases h
section
variable {G : Prg} {P : Program} {cd : Code} {σ τ X : St} {K : PX → St → Prop}
theorem here {σe X : St} (h : atS σe X = asS σe) : SubR P σe X := subR_sub (sub_map h)
theorem leafR {σe : St} (hτ : SubR P X τ) (h : SubR P σe X) : SubR P σe τ := subR_trans h hτ
theorem th_normalS {b : Code} (hτ : SubR G.P X τ) (σ' : St) (h : SubR G.P σ' X) (next : SEM G b σ' K) : thenK G b K .normal τ := sem_subR (leafR hτ h) next
theorem sem_exitS (i : Nat) (hk : knd cd = 7) (hi : cId cd = i) (next : ∀ τ, SubR G.P σ τ → K (.exit i) τ) : SEM G cd σ K := sem_exit i hk hi (next _ (subR_refl _))
theorem sem_retS (hk : knd cd = 8) (next : ∀ τ, SubR G.P σ τ → K .ret τ) : SEM G cd σ K := sem_ret hk (next _ (subR_refl _))
theorem sem_labelS (hk : knd cd = 11) (next : ∀ τ, SubR G.P σ τ → K .normal τ) : SEM G cd σ K := sem_label hk (next _ (subR_refl _))
theorem sem_skipS (hk : knd cd = 0) (next : ∀ τ, SubR G.P σ τ → K .normal τ) : SEM G cd σ K := sem_skip hk (next _ (subR_refl _))
theorem evs_endS {ops : Array Oper} {k : Nat} {K : St → Prop} (h : Nat.ble ops.size k = true) (next : ∀ τ, SubR G.P σ τ → K τ) : EVS G ops k σ K := evs_end h (next _ (subR_refl _))
theorem evo_endS {ops : Array Oper} {k : Nat} {K : St → Prop} (h : Nat.ble ops.size k = true) (next : ∀ τ, SubR G.P σ τ → K τ) : EVO G ops k σ K := evo_end h (next _ (subR_refl _))
theorem evs_mono {ops : Array Oper} {k : Nat} {K K' : St → Prop} (hk : ∀ τ, K' τ → K τ) (h : EVS G ops k σ K') : EVS G ops k σ K := fun E S0 N a w c hd hi Q hn => h E S0 N a w c hd hi Q fun σ' a' w' c' hK hI => hn σ' a' w' c' (hk _ hK) hI
theorem evs_split {ops : Array Oper} {k : Nat} {K : St → Prop} (b : Bool) (σf : Bool → St) (h : atS (σf b) σ = asS (σf b)) (ht : b = true → EVS G ops k (σf true) K) (hf : b = false → EVS G ops k (σf false) K) : EVS G ops k σ K := by
  refine evs_set _ h ?_
  cases b
  · exact hf rfl
  · exact ht rfl
theorem leafC {σe : St} (hτ : SubR P X τ) (h : SubR P σe X) : SubR P σe τ := subR_trans h hτ
/-- a region that ends in one state, by several ways -/
theorem sem_regionC (σj : St) (hk : knd cd = 1) (h : EVS G (cOps cd) 0 σ (fun τ => SubR G.P σj τ)) (next : ∀ τ, SubR G.P σj τ → K .normal τ) : SEM G cd σ K := sem_region hk (evs_mono next h)
theorem sem_drawC (σj : St) (T F rd av fv : List (Nat × List Nat)) (m : Nat) (hk : knd cd = 2) (hok : drawOk (cOps cd) T F rd av fv m = true) (L : List Nat) (hL : L.all (fun g => Nat.blt g PIN) = true) (hF : F.all (fun x => inL x.2 L) = true)
    (h : EVD G (cOps cd) ⟨lst T, lst F, lst rd, lst av, lst fv⟩ m 0 (σ.kill (killT L)) fun σ' => EVO G (cOps cd) m σ' (fun τ => SubR G.P σj τ)) (next : ∀ τ, SubR G.P σj τ → K .normal τ) : SEM G cd σ K :=
  sem_draw T F rd av fv m hk hok L hL hF (evd_mono (fun _ q => evo_mono next q) h)
theorem lk_nextS {S R : Type} {emb : S → St} {out : R → PX × St} {s' : S} (hτ : SubR P X τ) (h : SubR P (emb s') X) : LKR P emb out (.inl s') .normal τ := ⟨rfl, leafR hτ h⟩
theorem lk_outS {S R : Type} {emb : S → St} {out : R → PX × St} {r : R} {px : PX} (hτ : SubR P X τ) (e : (out r).1 = px) (h : SubR P (out r).2 X) : LKR P emb out (.inr r) px τ := ⟨e.symm, leafR hτ h⟩
def isN : PX → Bool
  | .normal => true
  | _ => false
theorem sem_loopS {S R : Type} (emb : S → St) (out : R → PX × St) (body : S → Option (S ⊕ R)) (s : S) (r : R) (hk : knd cd = 6) (h0 : SubR G.P (emb s) σ) (h : loopT body s = some r)
    (hbody : ∀ s t, body s = some t → SEM G (cL cd) (emb s) (LKR G.P emb out t)) (hout : ∀ r, isN (out r).1 = false) (hK : ∀ τ, SubR G.P (out r).2 τ → K (out r).1 τ) : SEM G cd σ K :=
  sem_loopR emb out body s r hk h0 h hbody (fun r e => by have := hout r; rw [e] at this; cases this) hK
def JK (P : Program) {J T : Type} (σj : J → St) (kN : J → Option T) (t : T) (K : PX → St → Prop) : PX → St → Prop
  | .normal, τ => ∃ j, kN j = some t ∧ SubR P (σj j) τ
  | .exit i, τ => K (.exit i) τ
  | .ret, τ => K .ret τ
theorem jk_normal {J T : Type} {σj : J → St} {kN : J → Option T} {t : T} (j : J) (h : kN j = some t) (hτ : SubR P X τ) (hs : SubR P (σj j) X) : JK P σj kN t K .normal τ := ⟨j, h, leafR hτ hs⟩
theorem jk_exit {J T : Type} {σj : J → St} {kN : J → Option T} {t : T} {i : Nat} (h : K (.exit i) τ) : JK P σj kN t K (.exit i) τ := h
theorem jk_ret {J T : Type} {σj : J → St} {kN : J → Option T} {t : T} (h : K .ret τ) : JK P σj kN t K .ret τ := h
theorem sem_seqJ {J T : Type} (σj : J → St) (kN : J → Option T) (t : T) (hk : knd cd = 3) (hrest : ∀ j, kN j = some t → SEM G (cR cd) (σj j) K) (hfirst : SEM G (cL cd) σ (JK G.P σj kN t K)) : SEM G cd σ K := by
  refine sem_seq hk (sem_mono (fun px τ h => ?_) hfirst)
  cases px with
  | normal => obtain ⟨j, hj, hs⟩ := h; exact sem_subR hs (hrest j hj)
  | exit i => exact h
  | ret => exact h
/-- how a body ends -/
def RK (P : Program) (l : List ResultVar) (r : PV) (H1 : HP) (x : PX) (σ : St) : Prop := (match x with | .exit _ => False | _ => True) ∧ ∃ σ0, SubR P σ0 σ ∧ pres P σ0 l = some r ∧ ∀ g o, H1.get g = some o → σ0.hget g = some o
theorem rk_ret {l : List ResultVar} {r : PV} {H1 : HP} (hτ : SubR P X τ) (s : SL) (hs : SubR P ⟨s, H1⟩ X) (h : pres P ⟨s, H1⟩ l = some r) : RK P l r H1 .ret τ := ⟨trivial, ⟨s, H1⟩, leafR hτ hs, h, fun _ _ h => h⟩
theorem rk_normal {l : List ResultVar} {r : PV} {H1 : HP} (hτ : SubR P X τ) (s : SL) (hs : SubR P ⟨s, H1⟩ X) (h : pres P ⟨s, H1⟩ l = some r) : RK P l r H1 .normal τ := ⟨trivial, ⟨s, H1⟩, leafR hτ hs, h, fun _ _ h => h⟩

theorem sem_prep (l : List Prep) (hp : (σ.prep G.P l).isSome = true) (next : SEM G cd (σ.prepD G.P l) K) : SEM G cd σ K := by
  obtain ⟨σ1, hs⟩ := Option.isSome_iff_exists.1 hp
  unfold St.prepD at next
  rw [hs] at next
  exact sem_subR (subR_prepL hs) next
theorem evs_prep {ops : Array Oper} {k : Nat} {Q : St → Prop} (l : List Prep) (hp : (σ.prep G.P l).isSome = true) (next : EVS G ops k (σ.prepD G.P l) Q) : EVS G ops k σ Q := by
  obtain ⟨σ1, hs⟩ := Option.isSome_iff_exists.1 hp
  unfold St.prepD at next
  rw [hs] at next
  exact evs_subR (subR_prepL hs) next
theorem evo_prep {ops : Array Oper} {k : Nat} {Q : St → Prop} (l : List Prep) (hp : (σ.prep G.P l).isSome = true) (next : EVO G ops k (σ.prepD G.P l) Q) : EVO G ops k σ Q := by
  obtain ⟨σ1, hs⟩ := Option.isSome_iff_exists.1 hp
  unfold St.prepD at next
  rw [hs] at next
  exact evo_subR (subR_prepL hs) next
/-- what was put is there -/
theorem setget {α : Type} {l : List α} {i : Nat} {x y : α} (h : l[i]? = some x) : (l.set i y)[i]? = some y := by
  have := (List.getElem?_eq_some_iff.1 h).1
  simp [this]

/-! ### calls -/
/-- the function that the k-th operation calls, its arguments -/
def callAt (ops : Array Oper) (k : Nat) (σ : St) : Option (Nat × List PV) := match onAt ops k σ with
  | some o => pcallee σ o.op
  | none => none
theorem callAt_spec {ops : Array Oper} {k f : Nat} {args : List PV} (h : callAt ops k σ = some (f, args)) : ∃ o, opAt ops k = some o ∧ pguard ops σ o = some true ∧ pcallee σ o.op = some (f, args) := by
  unfold callAt at h
  split at h
  · rename_i o ho
    obtain ⟨h1, h2⟩ := onAt_spec ho
    exact ⟨o, h1, h2, h⟩
  · cases h
/-- the function that the k-th operation calls, and what it gets -/
def callQ (ops : Array Oper) (k : Nat) (σ : St) (R : TL) (vis : List Nat) : Option (Nat × List PV) := match callAt ops k σ with
  | some (f, args) => some (f, PV.viewRL R (σ.h.only vis) DEEP args)
  | none => none
theorem callQ_spec {ops : Array Oper} {k : Nat} {R : TL} {vis : List Nat} {f : Nat} {qs : List PV} (h : callQ ops k σ R vis = some (f, qs)) : ∃ args, callAt ops k σ = some (f, args) ∧ PV.viewRL R (σ.h.only vis) DEEP args = qs := by
  unfold callQ at h
  split at h
  · rename_i f' args hc
    simp only [Option.some.injEq, Prod.mk.injEq] at h
    obtain ⟨rfl, rfl⟩ := h
    exact ⟨args, hc, rfl⟩
  · cases h
/-- what is asked of the tags of a call: handed over, new, read -/
def tagsOk (R N : TL) (vis : List Nat) : Bool := R.okB && (R ++ N).okB && R.all (fun x => Nat.blt x.2 PIN || Nat.ble PIN x.1) && N.all (fun x => Nat.blt x.2 PIN) && vis.all (fun g => (R.inn g).isNone)
theorem out_append {R N : TL} {t g : Nat} : (R ++ N).out t = some g → R.out t = some g ∨ (R.out t = none ∧ N.out t = some g) := by
  induction R with
  | nil => intro h; exact .inr ⟨rfl, h⟩
  | cons x R ih =>
    obtain ⟨t0, g0⟩ := x
    simp only [List.cons_append, TL.out]
    split
    · intro h; exact .inl h
    · exact ih
theorem out_append_l {R N : TL} {t g : Nat} (h : R.out t = some g) : (R ++ N).out t = some g := by
  induction R with
  | nil => cases h
  | cons x R ih =>
    obtain ⟨t0, g0⟩ := x
    simp only [List.cons_append, TL.out] at h ⊢
    split
    · rename_i e; rw [if_pos e] at h; exact h
    · rename_i e; rw [if_neg e] at h; exact ih h
theorem out_mem : ∀ {N : TL} {t g : Nat}, N.out t = some g → (t, g) ∈ N
  | [], _, _, h => nomatch h
  | (t0, g0) :: N, t, g, h => by
    simp only [TL.out] at h
    split at h
    · rename_i e
      injection h with h
      rw [Nat.eq_of_beq_eq_true e, h]; simp
    · exact List.mem_cons_of_mem _ (out_mem h)
theorem callE_of {ops : Array Oper} {k : Nat} {o : Oper} (ho : opAt ops k = some o) {Q : St → Prop} (R N : TL) (vis : List Nat) {f : Nat} {args qs : List PV} {H0 : HP} {r : PV} {H1 : HP} (pc : PC P f qs H0 r H1) (ht : tagsOk R N vis = true)
    (hq : PV.viewRL R (σ.h.only vis) DEEP args = qs) (hH : handed R (σ.h.only vis) σ.h R = H0) (ind : vis = [] ∨ (r.ind = true ∧ ∀ g o, H1.get g = some o → o.ind))
    (next : Q (setO (after (R ++ N) ((R.filter fun x => Nat.ble PIN x.1).map (·.2)) σ H1) (dstAt ops k) (r.ren (R ++ N)))) : CallE P f args o.dst σ R (R ++ N) vis qs H0 r H1 Q := by
  simp only [tagsOk, Bool.and_eq_true] at ht
  obtain ⟨⟨⟨⟨h1, h2⟩, h3⟩, h4⟩, h5⟩ := ht
  rw [dstAt_eq ho] at next
  refine ⟨pc, h1, h2, fun t g h => out_append_l h, fun t g h => ?_, h5, hq, hH, ind, next⟩
  rcases out_append h with h | ⟨hn, h⟩
  · left
    refine ⟨h, fun hp => ?_⟩
    have := List.all_eq_true.1 h3 _ (inn_mem ((TL.out_inn h1).1 h))
    simp only [Bool.or_eq_true] at this
    rcases this with q | q
    · have : g < PIN := by simpa using q
      omega
    · exact Nat.le_of_ble_eq_true q
  · right
    refine ⟨hn, ?_⟩
    have := out_mem h
    have := List.all_eq_true.1 h4 _ this
    simpa using this
theorem evs_callS {ops : Array Oper} {k : Nat} {Q : St → Prop} (R N : TL) (vis : List Nat) {f : Nat} {qs : List PV} {H0 : HP} {r : PV} {H1 : HP} (hc : callQ ops k σ R vis = some (f, qs)) (pc : PC G.P f qs H0 r H1) (ht : tagsOk R N vis = true)
    (hH : handed R (σ.h.only vis) σ.h R = H0) (ind : vis = [] ∨ (r.ind = true ∧ ∀ g o, H1.get g = some o → o.ind))
    (next : EVS G ops (k + 1) (setO (after (R ++ N) ((R.filter fun x => Nat.ble PIN x.1).map (·.2)) σ H1) (dstAt ops k) (r.ren (R ++ N))) Q) : EVS G ops k σ Q := by
  obtain ⟨args, hc, hq⟩ := callQ_spec hc
  obtain ⟨o, h1, h2, h3⟩ := callAt_spec hc
  exact evs_callE h1 h2 h3 (callE_of h1 R N vis pc ht hq hH ind next)
theorem evo_callS {ops : Array Oper} {k : Nat} {Q : St → Prop} (R N : TL) (vis : List Nat) {f : Nat} {qs : List PV} {H0 : HP} {r : PV} {H1 : HP} (hc : callQ ops k σ R vis = some (f, qs)) (pc : PC G.P f qs H0 r H1) (ht : tagsOk R N vis = true)
    (hH : handed R (σ.h.only vis) σ.h R = H0) (ind : vis = [] ∨ (r.ind = true ∧ ∀ g o, H1.get g = some o → o.ind))
    (next : EVO G ops (k + 1) (setO (after (R ++ N) ((R.filter fun x => Nat.ble PIN x.1).map (·.2)) σ H1) (dstAt ops k) (r.ren (R ++ N))) Q) : EVO G ops k σ Q := by
  obtain ⟨args, hc, hq⟩ := callQ_spec hc
  obtain ⟨o, h1, h2, h3⟩ := callAt_spec hc
  exact evo_callE h1 h2 h3 (callE_of h1 R N vis pc ht hq hH ind next)
/-- what is asked of a call in a region that draws its order -/
def dtagsOk (N : TL) (vis F rd : List Nat) : Bool := N.okB && N.all (fun x => Nat.blt x.2 PIN) && N.all (fun x => F.any fun y => Nat.beq y x.2) && inL vis rd
theorem evd_callS {ops : Array Oper} {D : DD} {m k : Nat} {Q : St → Prop} (N : TL) (vis : List Nat) {f : Nat} {qs : List PV} {r : PV} {H1 : HP} (hm : Nat.ble m k = false) (hc : callQ ops k σ [] vis = some (f, qs)) (pc : PC G.P f qs [] r H1) (ht : dtagsOk N vis (D.F k) (D.rd k) = true)
    (ind : vis = [] ∨ (r.ind = true ∧ ∀ g o, H1.get g = some o → o.ind)) (hav : avB ops k (D.av k) σ = true)
    (hT : (inL ((H1.ren N).map (·.1)) (D.T k) && Avoid (D.fv k) (r.ren N) && (H1.ren N).all fun x => !((D.fv k).any fun y => Nat.beq y x.1) && x.2.avoid (D.fv k)) = true)
    (next : EVD G ops D m (k + 1) (setO ⟨σ.s, H1.ren N ++ σ.h⟩ (dstAt ops k) (r.ren N)) Q) : EVD G ops D m k σ Q := by
  obtain ⟨args, hc, hq⟩ := callQ_spec hc
  obtain ⟨o, h1, h2, h3⟩ := callAt_spec hc
  simp only [dtagsOk, Bool.and_eq_true] at ht
  obtain ⟨⟨⟨t1, t2⟩, t3⟩, t4⟩ := ht
  simp only [Bool.and_eq_true] at hT
  exact evd_call hm h1 h2 h3 pc t1 t2 t3 t4 hq ind hav hT.1.1 (by rw [Bool.and_eq_true]; exact ⟨hT.1.2, hT.2⟩) next
end
def codeOf (fn : Func) : Code := fn.body.getD .skip
section
variable (G : Prg) {f : FuncId} {fn : Func} {args : List PV} {H0 : HP} {r : PV} {H1 : HP}
theorem pc_of (hf : G.P.funcs[f]? = some fn) (hb : fn.body.isSome = true) (hname : (fn.name == "runtime.NumGoroutine") = false)
    (hd : dstOk fn.ntmps (codeOf fn) = true) (hl : Nat.ble args.length fn.ntmps = true) (hN : Nat.ble fn.ntmps PIN = true) (h : SEM G (codeOf fn) ⟨initSt 0 args, H0⟩ (RK G.P fn.results.toList r H1)) : PC G.P f args H0 r H1 := by
  obtain ⟨cd, hcd⟩ := Option.isSome_iff_exists.1 hb
  have e : codeOf fn = cd := by unfold codeOf; rw [hcd]; rfl
  rw [e] at hd h
  have hl := Nat.le_of_ble_eq_true hl
  have hN := Nat.le_of_ble_eq_true hN
  refine ⟨by unfold enters; simp [hf, hcd, hname], fun w c vals hok hobj hlen hrep => ?_⟩
  refine calls_of_wp hf hcd ?_
  have hsz : (vals.toArray ++ Array.replicate (fn.ntmps - vals.toArray.size) undef).size = fn.ntmps := by simp; omega
  have inv : Inv G.P ⟨w, fun b => w.heap.size ≤ b ∨ ∃ k, c.D k ∧ c.τ k = b, fun _ h => .inl h, c⟩ c.S fn.ntmps ⟨initSt 0 args, H0⟩ { tmps := vals.toArray ++ Array.replicate (fn.ntmps - vals.toArray.size) undef, defers := [] } w c := by
    refine ⟨⟨rfl, rfl, rfl, Nat.le_refl _, fun _ _ _ => rfl⟩, ⟨hok.hS, fun k hk => ⟨.inr ⟨k, hk, rfl⟩, (hok.hD k hk).2⟩, hok.inj⟩, fun _ h => h, fun _ h => .inl h, fun i => ?_, hobj, fun g _ => Agree.refl c _, hN, hsz, rfl⟩
    show RV G.P w c ((initSt 0 args).get i) _
    rw [initSt_get]
    simp only [Nat.zero_le, if_true, Nat.sub_zero]
    cases hi : args[i]? with
    | none => exact .free _ _ (.undef _)
    | some pv =>
      have hlt : i < vals.length := by
        rw [hlen]
        exact len_of_get hi
      have := hrep i pv hi
      simp only [Option.getD_some]
      rw [Array.getD_eq_getD_getElem?, Array.getElem?_append_left (by simpa using hlt)]
      simpa [List.getD_eq_getElem?_getD] using this
  refine wp_mono (h _ _ _ _ _ _ hd inv) fun e a' w' he => ?_
  obtain ⟨px, σ', c', hl, ⟨hk1, σ0, hs, hk2, hk3⟩, hi⟩ := he
  obtain ⟨c2, hi⟩ := hs.inv hi
  obtain ⟨v, q1, q2⟩ := pres_ok hi hk2
  have fin : bodyPost G.P fn (fun e w' => ∃ v c', e = .returned v ∧ Ent.Fr ⟨w, fun b => w.heap.size ≤ b ∨ ∃ k, c.D k ∧ c.τ k = b, fun _ h => .inl h, c⟩ w' ∧ (∀ b, c.S b → c'.S b) ∧ (∀ b, c'.S b → c.S b ∨ w.heap.size ≤ b ∨ ∃ k, c.D k ∧ c.τ k = b) ∧
      c'.Ok (fun b => w.heap.size ≤ b ∨ ∃ k, c.D k ∧ c.τ k = b) w' ∧ Pinned c c' ∧ RV G.P w' c' r v ∧ ∀ g o, H1.get g = some o → HRep G.P w' c' g o) .ret a' w' :=
    ⟨hi.defers, v, q1, v, c2, rfl, hi.below, hi.sub, hi.sup, hi.ok, hi.pin, q2, fun g o hg => hi.objs g o (hk3 g o hg)⟩
  cases px <;> cases e <;> simp only [PX.like] at hl
  · exact fin
  · exact hk1.elim
  · exact fin
end
/-- plain cells -/
theorem lits_map {α : Type} {c : α → List PV} {l : List α} (h : ∀ x, (c x).all (fun p => match p with | .lit _ => true | _ => false) = true) : Lits (l.map c) := by
  intro i j p hg
  unfold getE at hg
  rw [List.getElem?_map] at hg
  cases hi : l[i]? with
  | none => rw [hi] at hg; simp at hg
  | some x =>
    rw [hi] at hg
    simp only [Option.map_some, Option.bind_some] at hg
    have := List.all_eq_true.1 (h x) p (List.mem_of_getElem? hg)
    cases p <;> simp at this
    exact ⟨_, rfl⟩
theorem ind_row {α : Type} {c : α → List PV} {l : List α} {e : Nat} (h : ∀ x, (c x).all (fun p => match p with | .lit _ => true | _ => false) = true) : HO.ind (.row e [] (l.map c)) := fun i j p hg => .inl ⟨rfl, lits_map h i j p hg⟩
theorem ind_nil {g : Nat} {o : HO} : HP.get [] g = some o → o.ind := fun h => nomatch h
theorem ind_one {t g : Nat} {o ob : HO} (h : ob.ind) : HP.get [(t, ob)] g = some o → o.ind := fun hg => by
  simp only [HP.get] at hg
  split at hg
  · injection hg with hg; subst hg; exact h
  · cases hg
theorem ind_cons {t g : Nat} {o ob : HO} {H : HP} (h : ob.ind) (hH : ∀ g o, HP.get H g = some o → o.ind) : HP.get ((t, ob) :: H) g = some o → o.ind := fun hg => by
  simp only [HP.get] at hg
  split at hg
  · injection hg with hg; subst hg; exact h
  · exact hH g o hg
end Go.VI
