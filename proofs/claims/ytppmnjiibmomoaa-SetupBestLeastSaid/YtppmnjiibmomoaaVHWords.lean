/- The plain words in which the models of the Go functions are written. Nothing is claimed here. -/
import Derived.WalkKit
import Derived.Orders
set_option linter.unusedVariables false
set_option linter.unusedSimpArgs false
set_option linter.unusedSectionVars false
namespace Go.VI
/-- The most elements of a row that is made. -/
def LIM : Nat := 1073741824

/-! ### plain words -/
def idx {α : Type} (l : List α) (i : Int) : Option α := if 0 ≤ i then l[i.toNat]? else none
def app {α : Type} (l xs : List α) : Option (List α) := if l.length + xs.length ≤ LIM then some (l ++ xs) else none
def slc {α : Type} (l : List α) (lo hi : Int) : Option (List α) := if 0 ≤ lo ∧ lo ≤ hi ∧ hi ≤ l.length then some ((l.take hi.toNat).drop lo.toNat) else none
def put1 {α : Type} (l : List α) (i : Int) (x : α) : List α := l.set i.toNat x
def mk {α : Type} (n : Int) (z : α) : Option (List α) := if 0 ≤ n ∧ n ≤ LIM then some (List.replicate n.toNat z) else none
def chk (b : Bool) : Option Unit := if b then some () else none
def iadd (a b : Int) : Int := IntKind.wrap .i64 (a + b)
def isub (a b : Int) : Int := IntKind.wrap .i64 (a - b)
def imul (a b : Int) : Int := IntKind.wrap .i64 (a * b)
def ineg (a : Int) : Int := IntKind.wrap .i64 (0 - a)
def iquo (a b : Int) : Int := IntKind.wrap .i64 (a.tdiv b)

/-- maps: the value of a key, and a new value laid in -/
def mfind (m : List (Int × Int)) (k : Int) : Option Int := match m with
  | [] => none
  | (a, b) :: m => if k == a then some b else mfind m k
def mput (m : List (Int × Int)) (k v : Int) : List (Int × Int) := match m with
  | [] => [(k, v)]
  | (a, b) :: m => if k == a then (k, v) :: m else (a, b) :: mput m k v
theorem bindS {α β : Type} {o : Option α} {k : α → Option β} {r : β} (h : o.bind k = some r) : ∃ x, o = some x ∧ k x = some r := Option.bind_eq_some_iff.1 h
theorem iteT {α : Type} {b : Bool} {x y : Option α} {r : α} (hb : b = true) (h : (if b then x else y) = some r) : x = some r := by rw [if_pos hb] at h; exact h
theorem iteF {α : Type} {b : Bool} {x y : Option α} {r : α} (hb : b = false) (h : (if b then x else y) = some r) : y = some r := by rw [if_neg (by simp [hb])] at h; exact h
theorem chkS {b : Bool} {u : Unit} (h : chk b = some u) : b = true := by unfold chk at h; split at h; assumption; cases h

theorem idxS {α : Type} {l : List α} {i : Int} {x : α} (h : idx l i = some x) : 0 ≤ i ∧ l[i.toNat]? = some x := by
  unfold idx at h; split at h
  · exact ⟨by assumption, h⟩
  · cases h
theorem appS {α : Type} {l xs l' : List α} (h : app l xs = some l') : l.length + xs.length ≤ LIM ∧ l' = l ++ xs := by
  unfold app at h; split at h
  · injection h with h; exact ⟨by assumption, h.symm⟩
  · cases h
theorem slcS {α : Type} {l l' : List α} {lo hi : Int} (h : slc l lo hi = some l') : (0 ≤ lo ∧ lo ≤ hi ∧ hi ≤ l.length) ∧ l' = (l.take hi.toNat).drop lo.toNat := by
  unfold slc at h; split at h
  · injection h with h; exact ⟨by assumption, h.symm⟩
  · cases h

/-! ### loops -/
def iterT {S R : Type} (body : S → Option (S ⊕ R)) : Nat → S → Option R
  | 0, _ => none
  | n + 1, s => match body s with
    | some (.inl s') => iterT body n s'
    | some (.inr r) => some r
    | none => none
theorem iterT_mono {S R : Type} {body : S → Option (S ⊕ R)} : ∀ {n m : Nat} {s : S} {r : R}, n ≤ m → iterT body n s = some r → iterT body m s = some r
  | 0, _, _, _, _, h => by cases h
  | n + 1, 0, _, _, h, _ => by omega
  | n + 1, m + 1, s, r, h, hi => by
    simp only [iterT] at hi ⊢
    cases hb : body s with
    | none => rw [hb] at hi; cases hi
    | some t =>
      rw [hb] at hi
      cases t with
      | inl s' => exact iterT_mono (Nat.le_of_succ_le_succ h) hi
      | inr r' => exact hi
/-- The loop's answer, where it ends. -/
noncomputable def loopT {S R : Type} (body : S → Option (S ⊕ R)) (s : S) : Option R :=
  open Classical in if h : ∃ r n, iterT body n s = some r then some (Classical.choose h) else none
theorem loopT_iff {S R : Type} {body : S → Option (S ⊕ R)} {s : S} {r : R} : loopT body s = some r ↔ ∃ n, iterT body n s = some r := by
  unfold loopT
  constructor
  · intro h
    split at h
    · rename_i hh
      injection h with h
      rw [← h]
      exact Classical.choose_spec hh
    · cases h
  · rintro ⟨n, h⟩
    have hh : ∃ r n, iterT body n s = some r := ⟨r, n, h⟩
    rw [dif_pos hh]
    obtain ⟨m, hm⟩ := Classical.choose_spec hh
    rcases Nat.le_total n m with q | q
    · rw [iterT_mono q h] at hm; exact hm.symm
    · rw [iterT_mono q hm] at h; exact h
theorem loopT_eq {S R : Type} (body : S → Option (S ⊕ R)) (s : S) : loopT body s = match body s with
    | some (.inl s') => loopT body s'
    | some (.inr r) => some r
    | none => none := by
  have key : ∀ r, loopT body s = some r ↔ (match body s with
    | some (.inl s') => loopT body s'
    | some (.inr r) => some r
    | none => none) = some r := by
    intro r
    rw [loopT_iff]
    constructor
    · rintro ⟨n, h⟩
      cases n with
      | zero => cases h
      | succ n =>
        simp only [iterT] at h
        split at h
        · exact loopT_iff.2 ⟨n, h⟩
        · exact h
        · cases h
    · intro h
      split at h
      · rename_i s' hb
        obtain ⟨n, hn⟩ := loopT_iff.1 h
        exact ⟨n + 1, by simp only [iterT, hb]; exact hn⟩
      · rename_i r' hb
        exact ⟨1, by simp only [iterT, hb]; exact h⟩
      · cases h
  cases h1 : loopT body s with
  | some r => exact ((key r).1 h1).symm
  | none =>
    generalize hX : (match body s with
    | some (.inl s') => loopT body s'
    | some (.inr r) => some r
    | none => none) = X
    cases X with
    | none => rfl
    | some r =>
      have h2 := (key r).2 hX
      rw [h1] at h2; cases h2

end Go.VI
