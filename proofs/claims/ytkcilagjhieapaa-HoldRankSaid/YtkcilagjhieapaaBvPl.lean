/- Plain words for what the program's operations compute: no program in sight. -/
import Derived.Test.YtkcilagjhieapaaBv0
set_option linter.unusedVariables false
namespace Go.Av

theorem bindS {α β : Type} {a : Option α} {f : α → Option β} {o : β} (h : a.bind f = some o) : ∃ x, a = some x ∧ f x = some o := by
  cases a with
  | none => cases h
  | some x => exact ⟨x, rfl, h⟩

def eInt (k : IntKind) (n : Int) : PV := .int k n
def eBool (b : Bool) : PV := .bool b
def eStr (s : List UInt8) : PV := .str s
def eSl {α : Type} (f : α → PV) (l : List α) : PV := .slice (l.map f)

theorem eInt_maps (k : IntKind) (l l' : List Int) : l.map (eInt k) = l'.map (eInt k) ↔ l = l' := List.map_inj_right (by intro x y h; simpa [eInt] using h)
theorem eBool_maps (l l' : List Bool) : l.map eBool = l'.map eBool ↔ l = l' := List.map_inj_right (by intro x y h; simpa [eBool] using h)
theorem eStr_maps (l l' : List (List UInt8)) : l.map eStr = l'.map eStr ↔ l = l' := List.map_inj_right (by intro x y h; simpa [eStr] using h)

/-- What is reckoned only if a guard stands. -/
def gdO {α : Type} (g : Bool) (x : Option α) (d : α) : Option α := match g with
  | true => x
  | false => some d

theorem gdO_at {α : Type} {g : Bool} {x : Option α} {d e : α} (hg : g = true) (h : gdO g x d = some e) : x = some e := by subst hg; exact h

/-- An element. -/
def rdO {α : Type} (l : List α) (i : Int) : Option α := if 0 ≤ i then l[i.toNat]? else none

theorem rdO_nil {α : Type} {i : Int} {e : α} : ¬ rdO ([] : List α) i = some e := by
  unfold rdO; split <;> simp

theorem isEmpty_ne {α : Type} {l : List α} (h : ¬ l = []) : l.isEmpty = false := by simpa using h

/-- A copy; 'n': an element's bytes. -/
def slices_Clone {α : Type} (n : Nat) (l : List α) : Option (List α) := if l.length * n ≤ 140737488355328 then some l else none

theorem slices_Clone_spec {α : Type} {n : Nat} {l r : List α} (h : slices_Clone n l = some r) : l.length * n ≤ 140737488355328 ∧ l = r := by
  unfold slices_Clone at h
  split at h
  · rename_i hb; exact ⟨hb, Option.some.inj h⟩
  · cases h

/-- One element laid into a row; 'n': an element's bytes. -/
def insO {α : Type} (n : Nat) (l : List α) (i : Int) (e : α) : Option (List α) := if 0 ≤ i ∧ i ≤ l.length ∧ (l.length + 1) * n ≤ 140737488355328 then some (l.take i.toNat ++ e :: l.drop i.toNat) else none

/-- Maps: entries in the order in which they came. -/
def mget {κ ν : Type} [BEq κ] (l : List (κ × ν)) (k : κ) : Option ν := (l.find? fun e => k == e.1).map (·.2)
def mset {κ ν : Type} [BEq κ] : List (κ × ν) → κ → ν → List (κ × ν)
  | [], k, v => [(k, v)]
  | e :: es, k, v => if k == e.1 then (e.1, v) :: es else e :: mset es k v
def eEnt {κ ν : Type} (f : κ → PV) (g : ν → PV) (e : κ × ν) : PV × PV := (f e.1, g e.2)

/-- A byte. -/
def byO (s : List UInt8) (i : Int) : Option Int := if 0 ≤ i then (s[i.toNat]?).map (fun b => (b.toNat : Int)) else none

/-- From low to high. -/
def slO {α : Type} (l : List α) (lo hi : Int) : Option (List α) := if 0 ≤ lo ∧ lo ≤ hi ∧ hi ≤ l.length then some ((l.take hi.toNat).drop lo.toNat) else none

/-- An element is another. -/
def stO {α : Type} (l : List α) (i : Int) (f : α → α) : Option (List α) := if 0 ≤ i then (l[i.toNat]?).map (fun e => l.set i.toNat (f e)) else none

def quoO (k : IntKind) (a b : Int) : Option Int := if b = 0 then none else some (k.wrap (a.tdiv b))
def remO (k : IntKind) (a b : Int) : Option Int := if b = 0 then none else some (a.tmod b)
def shlO (k : IntKind) (a b : Int) : Option Int := if b < 0 then none else some (k.wrap (a * 2 ^ (min b.toNat k.bits)))
def shrO (k : IntKind) (a b : Int) : Option Int := if b < 0 then none else some (a.fdiv (2 ^ (min b.toNat k.bits)))

/-- Two texts as one. -/
def catO (a b : List UInt8) : Option (List UInt8) := if a.length + b.length ≤ 9223372036854775807 then some (a ++ b) else none

/-- A row with more behind it; 'n': an element's bytes. -/
def apO {α : Type} (n : Nat) (xs ys : List α) : Option (List α) := if (xs.length + ys.length) * n ≤ 140737488355328 then some (xs ++ ys) else none

theorem apO_nil {α : Type} {n : Nat} {xs r : List α} (hx : xs = []) (h : apO n xs [] = some r) : r = [] := by
  subst hx
  unfold apO at h
  split at h
  · simpa using h.symm
  · cases h

/-- A new row. -/
def mkO {α : Type} (n : Nat) (z : α) (a c : Int) : Option (List α) := if 0 ≤ a ∧ a ≤ c ∧ c * n ≤ 140737488355328 ∧ c ≤ 140737488355328 then some (List.replicate a.toNat z) else none

/-! ### loops -/

def iterO {S O : Type} (f : S → Option (S ⊕ O)) : Nat → S → Option O
  | 0, _ => none
  | n + 1, s => match f s with
    | none => none
    | some (.inl s') => iterO f n s'
    | some (.inr o) => some o

theorem iterO_more {S O : Type} {f : S → Option (S ⊕ O)} : ∀ {n : Nat} {s : S} {o : O}, iterO f n s = some o → iterO f (n + 1) s = some o := by
  intro n
  induction n with
  | zero => intro s o h; cases h
  | succ n ih =>
    intro s o h
    rw [iterO] at h ⊢
    cases hf : f s with
    | none => rw [hf] at h; exact h
    | some x =>
      rw [hf] at h
      cases x with
      | inl s' => exact ih h
      | inr o' => exact h

theorem iterO_le {S O : Type} {f : S → Option (S ⊕ O)} {n m : Nat} (hle : n ≤ m) {s : S} {o : O} (h : iterO f n s = some o) : iterO f m s = some o := by
  induction hle with
  | refl => exact h
  | step _ ih => exact iterO_more ih

/-- A loop: 'f' is one round: on with another state, or out. -/
noncomputable def loopO {S O : Type} (f : S → Option (S ⊕ O)) (s : S) : Option O :=
  open Classical in if h : ∃ o n, iterO f n s = some o then some h.choose else none

theorem loopO_iff {S O : Type} {f : S → Option (S ⊕ O)} {s : S} {o : O} : loopO f s = some o ↔ ∃ n, iterO f n s = some o := by
  unfold loopO
  constructor
  · intro h
    split at h
    · rename_i hx
      simp only [Option.some.injEq] at h
      subst h
      exact hx.choose_spec
    · cases h
  · intro h
    have hx : ∃ o n, iterO f n s = some o := ⟨o, h⟩
    rw [dif_pos hx]
    obtain ⟨n, hn⟩ := h
    obtain ⟨m, hm⟩ := hx.choose_spec
    have h1 := iterO_le (Nat.le_max_left n m) hn
    have h2 := iterO_le (Nat.le_max_right n m) hm
    rw [h1] at h2
    exact h2.symm

theorem loopO_eq {S O : Type} (f : S → Option (S ⊕ O)) (s : S) : loopO f s = match f s with
    | none => none
    | some (.inl s') => loopO f s'
    | some (.inr o) => some o := by
  have key : ∀ o, loopO f s = some o ↔ (match f s with
    | none => none
    | some (.inl s') => loopO f s'
    | some (.inr o) => some o) = some o := by
    intro o
    rw [loopO_iff]
    constructor
    · rintro ⟨n, hn⟩
      cases n with
      | zero => cases hn
      | succ n =>
        rw [iterO] at hn
        cases hf : f s with
        | none => rw [hf] at hn; exact hn
        | some x =>
          rw [hf] at hn
          cases x with
          | inl s' => exact loopO_iff.2 ⟨n, hn⟩
          | inr o' => exact hn
    · intro h
      cases hf : f s with
      | none => rw [hf] at h; cases h
      | some x =>
        rw [hf] at h
        cases x with
        | inl s' =>
          obtain ⟨n, hn⟩ := loopO_iff.1 h
          exact ⟨n + 1, by rw [iterO, hf]; exact hn⟩
        | inr o' => exact ⟨1, by rw [iterO, hf]; exact h⟩
  cases hl : loopO f s with
  | some o => exact ((key o).1 hl).symm
  | none =>
    generalize hr : (match f s with
    | none => none
    | some (.inl s') => loopO f s'
    | some (.inr o) => some o) = r at key ⊢
    cases r with
    | none => rfl
    | some o => have := (key o).2 rfl; rw [hl] at this; cases this

theorem loopO_on {S O : Type} {f : S → Option (S ⊕ O)} {s s' : S} (h : f s = some (.inl s')) : loopO f s = loopO f s' := by rw [loopO_eq, h]
theorem loopO_out {S O : Type} {f : S → Option (S ⊕ O)} {s : S} {o : O} (h : f s = some (.inr o)) : loopO f s = some o := by rw [loopO_eq, h]

/-- What holds of the loop: by what holds at its head, and what falls. -/
theorem loopO_rule {S O : Type} {f : S → Option (S ⊕ O)} (I : S → Prop) (m : S → Nat) (R : O → Prop) (hf : ∀ s, I s → (∃ s', f s = some (.inl s') ∧ I s' ∧ m s' < m s) ∨ (∃ o, f s = some (.inr o) ∧ R o)) : ∀ s, I s → ∃ o, loopO f s = some o ∧ R o := by
  have : ∀ n s, m s < n → I s → ∃ o, loopO f s = some o ∧ R o := by
    intro n
    induction n with
    | zero => intro s h; omega
    | succ n ih =>
      intro s hn hI
      rcases hf s hI with ⟨s', h1, h2, h3⟩ | ⟨o, h1, h2⟩
      · rw [loopO_on h1]; exact ih s' (by omega) h2
      · exact ⟨o, loopO_out h1, h2⟩
  intro s hI
  exact this (m s + 1) s (by omega) hI

end Go.Av
