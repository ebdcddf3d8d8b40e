import Derived.Laws.RangeAny
import Derived.Test.YtkpgcijaahgoeaaDoorC13
section
set_option linter.unusedVariables false
set_option linter.unusedSimpArgs false
namespace Go.Av
open Go
theorem wrap64 {x : Int} (h1 : -9223372036854775808 ≤ x) (h2 : x < 9223372036854775808) : IntKind.wrap .i64 x = x := by
 have hb : IntKind.bits .i64 = 64 := rfl
 have hs : IntKind.signed .i64 = true := rfl
 unfold IntKind.wrap
 simp only [hb, hs, Bool.true_and, decide_eq_true_eq]
 split <;> omega
theorem rdO_at {α : Type} {l : List α} {i : Nat} (h : i < l.length) : rdO l (i : Int) = some l[i] := by
 unfold rdO
 rw [if_pos (by omega)]
 simp [List.getElem?_eq_getElem h]
theorem byO_at {s : List UInt8} {i : Nat} (h : i < s.length) : byO s (i : Int) = some ((s[i].toNat : Nat) : Int) := by
 unfold byO
 rw [if_pos (by omega)]
 simp [List.getElem?_eq_getElem h]
theorem loopI {O : Type} {f : Int → Option (Int ⊕ O)} {n : Nat} {q : Nat → Bool} {o : Nat → O} {e : O} (hn : n < 4611686018427387904) (hin : ∀ i : Nat, i < n → f i = some (if q i = true then .inr (o i) else .inl (IntKind.wrap .i64 ((i : Int) + 1))))
  (hout : ∀ i : Nat, n ≤ i → f i = some (.inr e)) (s : Nat) : loopO f s = some (match (List.range' s (n - s)).find? q with | some i => o i | none => e) := by
 generalize hm : n - s = m
 induction m generalizing s with
 | zero => rw [loopO_out (hout s (by omega))]; rfl
 | succ m ih =>
  have := hin s (by omega)
  rw [List.range'_succ, List.find?_cons]
  cases hq : q s with
  | true =>
   rw [hq, if_pos rfl] at this
   rw [loopO_out this]
  | false =>
   rw [hq, if_neg (by simp), wrap64 (by omega) (by omega)] at this
   rw [loopO_on this]
   exact ih (s + 1) (by omega)
theorem find_any {O : Type} {l : List Nat} {q : Nat → Bool} {o e : O} : (match l.find? q with | some i => o | none => e) = if l.any q = true then o else e := by
 induction l with
 | nil => rfl
 | cons x l ih =>
  rw [List.find?_cons, List.any_cons]
  cases q x with
  | true => rfl
  | false => simpa using ih
theorem loopI_any {O : Type} {f : Int → Option (Int ⊕ O)} {n : Nat} {q : Nat → Bool} {o e : O} (hn : n < 4611686018427387904) (hin : ∀ i : Nat, i < n → f i = some (if q i = true then .inr o else .inl (IntKind.wrap .i64 ((i : Int) + 1))))
  (hout : ∀ i : Nat, n ≤ i → f i = some (.inr e)) (s : Nat) : loopO f s = some (if (List.range' s (n - s)).any q = true then o else e) := by
 rw [loopI hn hin hout s, find_any]
theorem loopL_fold {α S O : Type} {f : Int × S → Option ((Int × S) ⊕ O)} {l : List α} (step : S → α → S) (out : S → O) {s0 : S} (hn : l.length < 4611686018427387904)
  (hin : ∀ (i : Nat) (h : i < l.length), f ((i : Int), (l.take i).foldl step s0) = some (.inl (IntKind.wrap .i64 ((i : Int) + 1), step ((l.take i).foldl step s0) l[i])))
  (hout : f ((l.length : Int), l.foldl step s0) = some (.inr (out (l.foldl step s0)))) : loopO f (0, s0) = some (out (l.foldl step s0)) := by
 have key : ∀ k, k ≤ l.length → loopO f (0, s0) = loopO f ((k : Int), (l.take k).foldl step s0) := by
  intro k
  induction k with
  | zero => intro _; rfl
  | succ k ih =>
   intro hk
   rw [ih (by omega), loopO_on (hin k (by omega)), wrap64 (by omega) (by omega), List.take_succ_eq_append_getElem (by omega), List.foldl_append]
   rfl
 rw [key l.length (Nat.le_refl _), List.take_length]
 exact loopO_out hout
def Rise {α : Type} (key : α → Int) (l : List α) : Prop := ∀ i (h : i + 1 < l.length), key l[i] < key l[i + 1]
theorem Rise.lt {α : Type} {key : α → Int} {l : List α} (h : Rise key l) : ∀ {j i : Nat} (hj : j < l.length) (hij : i < j), key (l[i]'(by omega)) < key l[j] := by
 intro j
 induction j with
 | zero => intro i _ hij; omega
 | succ j ih =>
  intro i hj hij
  have h1 := h j hj
  by_cases he : i = j
  ·subst he; exact h1
  ·have := ih (i := i) (by omega) (by omega)
   omega
theorem Rise.inj {α : Type} {key : α → Int} {l : List α} (h : Rise key l) {i j : Nat} (hi : i < l.length) (hj : j < l.length) (he : key l[i] = key l[j]) : i = j := by
 by_cases h1 : i < j
 ·have := h.lt hj h1; omega
 ·by_cases h2 : j < i
  ·have := h.lt hi h2; omega
  ·omega
theorem loopI_any0 {O : Type} {f : Int → Option (Int ⊕ O)} {n : Nat} {q : Nat → Bool} {o e : O} (hn : n < 4611686018427387904) (hin : ∀ i : Nat, i < n → f i = some (if q i = true then .inr o else .inl (IntKind.wrap .i64 ((i : Int) + 1))))
  (hout : ∀ i : Nat, n ≤ i → f i = some (.inr e)) : loopO f 0 = some (if (List.range' 0 n).any q = true then o else e) := loopI_any hn hin hout 0
end Go.Av
end
section
set_option linter.unusedVariables false
set_option linter.unusedSimpArgs false
set_option maxRecDepth 4000
set_option maxHeartbeats 4000000
namespace Go.Av.G
open Go Go.Av Go.Proofs
theorem bind_at {α β : Type} {a : Option α} {x : α} {f : α → Option β} {o : Option β} (h : a = some x) (h2 : f x = o) : a.bind f = o := by subst h; exact h2
theorem gdO_some {α : Type} (g : Bool) (a d : α) : gdO g (some a) d = some (bif g then a else d) := by cases g <;> rfl
def spanN (q : UInt8 → Bool) (s : List UInt8) : Nat := (s.takeWhile q).length
theorem spanN_nil (q : UInt8 → Bool) : spanN q [] = 0 := rfl
theorem spanN_cons (q : UInt8 → Bool) (b : UInt8) (t : List UInt8) : spanN q (b :: t) = if q b = true then spanN q t + 1 else 0 := by
 unfold spanN
 rw [List.takeWhile_cons]
 split <;> simp
theorem spanN_le (q : UInt8 → Bool) : ∀ s : List UInt8, spanN q s ≤ s.length
 | [] => by simp [spanN_nil]
 | b :: t => by
  have := spanN_le q t
  rw [spanN_cons, List.length_cons]
  split <;> omega
theorem slO_drop {α : Type} {l : List α} {n : Nat} (h : n ≤ l.length) : slO l (n : Int) (l.length : Int) = some (l.drop n) := by
 unfold slO
 rw [if_pos ⟨by omega, by omega, by omega⟩]
 simp
theorem slO_front {α : Type} {l : List α} {n : Nat} (h : n ≤ l.length) : slO l 0 (n : Int) = some (l.take n) := by
 unfold slO
 rw [if_pos ⟨by omega, by omega, by omega⟩]
 simp
theorem slO_mid {α : Type} {l : List α} {a b : Nat} (h1 : a ≤ b) (h2 : b ≤ l.length) : slO l (a : Int) (b : Int) = some ((l.take b).drop a) := by
 unfold slO
 rw [if_pos ⟨by omega, by omega, by omega⟩]
 simp
theorem idx_span {p : Nat → Bool} {q : UInt8 → Bool} (h1 : ∀ x, 128 ≤ x → p x = true) (h2 : ∀ b : UInt8, b.toNat < 128 → p b.toNat = !q b) (h3 : ∀ b : UInt8, 128 ≤ b.toNat → q b = false) (s : List UInt8) : Lib.idxFunc p true ⟨s.toArray⟩ = if spanN q s = s.length then -1 else (spanN q s : Int) := by
 have hsz : (ByteArray.mk s.toArray).size = s.length := by simp [ByteArray.size]
 have key : ∀ f pos, s.length - pos ≤ f → pos ≤ s.length → Lib.idxFuncFrom p true ⟨s.toArray⟩ f pos = if spanN q (s.drop pos) = s.length - pos then -1 else ((pos + spanN q (s.drop pos) : Nat) : Int) := by
  intro f
  induction f with
  | zero =>
   intro pos h hp
   have : pos = s.length := by omega
   subst this
   simp [Lib.idxFuncFrom, spanN_nil]
  | succ f ih =>
   intro pos h hp
   simp only [Lib.idxFuncFrom]
   by_cases hpos : pos < s.length
   ·rw [if_pos (by rw [hsz]; exact hpos)]
    have hget : (ByteArray.mk s.toArray)[pos]'(by rw [hsz]; exact hpos) = s[pos] := rfl
    rw [List.drop_eq_getElem_cons hpos, spanN_cons]
    have hle := spanN_le q (s.drop (pos + 1))
    rw [List.length_drop] at hle
    by_cases ha : (s[pos]).toNat < 128
    ·have hd := Go.decode_ascii (ByteArray.mk s.toArray) pos (by rw [hsz]; exact hpos) (by rw [hget]; exact ha)
     rw [hd, hget]
     simp only
     rw [h2 _ ha]
     cases hq : q s[pos] with
     | true =>
      simp only [Bool.not_true, Bool.false_eq_true, if_false, if_true]
      rw [ih (pos + 1) (by omega) (by omega)]
      by_cases he : spanN q (s.drop (pos + 1)) = s.length - (pos + 1)
      ·rw [if_pos he, if_pos (by omega)]
      ·rw [if_neg he, if_neg (by omega)]
       omega
     | false =>
      simp only [Bool.not_false, if_true, Bool.false_eq_true, if_false]
      rw [if_neg (by omega)]
      simp
    ·have hd := Go.decode_high (ByteArray.mk s.toArray) pos (by rw [hsz]; exact hpos) (by rw [hget]; omega)
     rw [if_pos (h1 _ hd.1), h3 _ (by omega)]
     simp only [Bool.false_eq_true, if_false]
     rw [if_neg (by omega)]
     simp
   ·have : pos = s.length := by omega
    subst this
    rw [if_neg (by rw [hsz]; omega)]
    simp [spanN_nil]
 unfold Lib.idxFunc
 rw [key _ 0 (by rw [hsz]; omega) (by omega)]
 simp
def letB (b : UInt8) : Bool := decide (97 ≤ b.toNat ∧ b.toNat ≤ 122)
def digB (b : UInt8) : Bool := decide (48 ≤ b.toNat ∧ b.toNat ≤ 57)
def worB (b : UInt8) : Bool := decide ((97 ≤ b.toNat ∧ b.toNat ≤ 122) ∨ (48 ≤ b.toNat ∧ b.toNat ≤ 57) ∨ b.toNat = 95)
def prB (b : UInt8) : Bool := decide (32 ≤ b.toNat ∧ b.toNat ≤ 126)
theorem isLetter_eq (n : Int) : lex_isLetter n = some (decide (97 ≤ n ∧ n ≤ 122)) := by simp [lex_isLetter]
theorem isDigit_eq (n : Int) : lex_isDigit n = some (decide (48 ≤ n ∧ n ≤ 57)) := by simp [lex_isDigit]
theorem isOfWord_eq (n : Int) : lex_isOfWord n = some (decide ((97 ≤ n ∧ n ≤ 122) ∨ (48 ≤ n ∧ n ≤ 57) ∨ n = 95)) := by
 simp only [lex_isOfWord, isLetter_eq, isDigit_eq, Option.bind_some, gdO_some, Option.some.injEq]
 by_cases h1 : 97 ≤ n ∧ n ≤ 122
 ·simp [h1]
 ·by_cases h2 : 48 ≤ n ∧ n ≤ 57
  ·simp [h1, h2]
  ·by_cases h3 : n = 95
   ·simp [h3]
   ·simp [h1, h2, h3]
theorem quoted_1_eq (n : Int) : lex_quoted_1 n = some (decide (32 ≤ n ∧ n ≤ 126)) := by simp [lex_quoted_1]
theorem wrap8 {n : Int} (h1 : 0 ≤ n) (h2 : n < 256) : IntKind.wrap .u8 n = n := by
 have hb : IntKind.bits .u8 = 8 := rfl
 have hs : IntKind.signed .u8 = false := rfl
 unfold IntKind.wrap
 simp only [hb, hs, Bool.false_and]
 simp
 omega
theorem run_of {f : Int → Option Bool} {g : Int → Bool} {q : UInt8 → Bool} (hf : ∀ n : Int, f n = some (bif decide (n > 127) then true else !g (IntKind.wrap .u8 n))) (hg : ∀ b : UInt8, g (b.toNat : Int) = q b) (hq : ∀ b : UInt8, 128 ≤ b.toNat → q b = false) (s : List UInt8) : strings_IndexFunc f s = some (if spanN q s = s.length then -1 else (spanN q s : Int)) := by
 rw [strings_IndexFunc_eq (fun x => bif decide ((x : Int) > 127) then true else !g (IntKind.wrap .u8 (x : Int))) (fun x => hf x), idx_span (q := q) ?_ ?_ hq]
 ·intro x hx
  have : decide ((x : Int) > 127) = true := decide_eq_true (by omega)
  simp only [this, cond_true]
 ·intro b hb
  have : decide ((b.toNat : Int) > 127) = false := decide_eq_false (by omega)
  simp only [this, cond_false, wrap8 (show 0 ≤ (b.toNat : Int) by omega) (show (b.toNat : Int) < 256 by omega), hg]
theorem run_eq (s : List UInt8) : lex_run s = some (spanN worB s : Int) := by
 unfold lex_run
 rw [run_of (g := fun n => decide ((97 ≤ n ∧ n ≤ 122) ∨ (48 ≤ n ∧ n ≤ 57) ∨ n = 95)) (q := worB)]
 ·simp only [Option.bind_some]
  by_cases h : spanN worB s = s.length
  ·rw [if_pos h]; simp [h]
  ·rw [if_neg h]; simp; omega
 ·intro n
  simp only [lex_run_1, isOfWord_eq, Option.bind_some, gdO_some]
  cases decide (n > 127) <;> simp
 ·intro b
  unfold worB
  rw [Bool.eq_iff_iff]
  simp
  omega
 ·intro b hb
  unfold worB
  simp
  omega
theorem run2_eq (s : List UInt8) : lex_run_2 s = some (spanN digB s : Int) := by
 unfold lex_run_2
 rw [run_of (g := fun n => decide (48 ≤ n ∧ n ≤ 57)) (q := digB)]
 ·simp only [Option.bind_some]
  by_cases h : spanN digB s = s.length
  ·rw [if_pos h]; simp [h]
  ·rw [if_neg h]; simp; omega
 ·intro n
  simp only [lex_run_1_1, isDigit_eq, Option.bind_some, gdO_some]
  cases decide (n > 127) <;> simp
 ·intro b
  unfold digB
  rw [Bool.eq_iff_iff]
  simp
  omega
 ·intro b hb
  unfold digB
  simp
  omega
theorem run3_eq (s : List UInt8) : lex_run_3 s = some (spanN prB s : Int) := by
 unfold lex_run_3
 rw [run_of (g := fun n => decide (32 ≤ n ∧ n ≤ 126)) (q := prB)]
 ·simp only [Option.bind_some]
  by_cases h : spanN prB s = s.length
  ·rw [if_pos h]; simp [h]
  ·rw [if_neg h]; simp; omega
 ·intro n
  simp only [lex_run_1_2, quoted_1_eq, Option.bind_some, gdO_some]
  cases decide (n > 127) <;> simp
 ·intro b
  unfold prB
  rw [Bool.eq_iff_iff]
  simp
  omega
 ·intro b hb
  unfold prB
  simp
  omega
end Go.Av.G
end
section
set_option linter.unusedVariables false
set_option linter.unusedSimpArgs false
set_option maxRecDepth 4000
set_option maxHeartbeats 4000000
namespace Go.Av.G
open Go Go.Av Go.Proofs
def moreN (s : List UInt8) : Nat := match s with
 | b :: c :: t => if b = 46 then spanN digB (c :: t) else 0
 | _ => 0
def wordS (s : List UInt8) : Nat × Nat := if 32 < spanN worB s then (0, 3) else (spanN worB s, 0)
def numS (s : List UInt8) : Nat × Nat :=
 if 15 < spanN digB s ∨ 9 < moreN (s.drop (spanN digB s)) ∨ 1 < spanN digB s ∧ s.head? = some 48 then (0, 3)
 else if 0 < moreN (s.drop (spanN digB s)) then (spanN digB s + 1 + moreN (s.drop (spanN digB s)), 0) else (spanN digB s, 0)
def notQ (b : UInt8) : Bool := b != 34
def quoS (s : List UInt8) : Nat × Nat :=
 if spanN notQ (s.drop 1) = (s.drop 1).length then (0, 14)
 else if 32 < spanN notQ (s.drop 1) ∨ spanN prB ((s.drop 1).take (spanN notQ (s.drop 1))) < spanN notQ (s.drop 1) then (0, 3)
 else (spanN notQ (s.drop 1) + 2, 0)
def ones : List UInt8 := [123, 125, 40, 41, 91, 93, 59, 58, 44, 37, 61, 60, 62, 43, 45, 42, 47]
def sigS (s : List UInt8) : Nat × Nat :=
 if s.take 2 = [60, 61] ∨ s.take 2 = [62, 61] ∨ s.take 2 = [46, 46] then (2, 0)
 else match s with
 | b :: _ => if b ∈ ones then (1, 0) else (0, 14)
 | [] => (0, 14)
def nextS (s : List UInt8) : Nat × Nat × Nat := match s with
 | b :: _ => if letB b = true then (0, wordS s) else if digB b = true then (1, numS s) else if b = 34 then (2, quoS s) else (3, sigS s)
 | [] => (0, 0, 14)
def prI (x : Nat × Nat) : Int × Int := ((x.1 : Int), (x.2 : Int))
theorem word_eq (s : List UInt8) : lex_word s = some (prI (wordS s)) := by
 unfold lex_word wordS prI
 rw [run_eq]
 simp only [Option.bind_some, decide_eq_true_eq]
 by_cases h : 32 < spanN worB s
 ·rw [if_pos (by omega), if_pos h]; rfl
 ·rw [if_neg (by omega), if_neg h]; rfl
theorem byO_head {b : UInt8} {t : List UInt8} : byO (b :: t) 0 = some (b.toNat : Int) := by simp [byO]
theorem toNat_eq {b : UInt8} {n : Nat} (hn : n < 256) : b.toNat = n ↔ b = UInt8.ofNat n := by
 constructor
 ·intro h
  apply UInt8.toNat_inj.1
  simp [h]
  omega
 ·rintro rfl
  simp
  omega
theorem more_eq (s : List UInt8) : ((some (decide ((s.length : Int) > 1))).bind fun c4 =>
 (gdO c4 (byO s 0) 0).bind fun x5 =>
 ((if (c4 && (x5 == 46)) = true then
   (slO s 1 (s.length : Int)).bind fun x7 =>
   (lex_run_2 x7).bind fun x8 =>
   some x8
 else
  some 0) : Option Int)) = some (moreN s : Int) := by
 match s with
 | [] => rfl
 | [b] => rfl
 | b :: c :: t =>
  have h1 : decide ((((b :: c :: t).length : Nat) : Int) > 1) = true := by simp; omega
  have h2 := slO_drop (l := b :: c :: t) (n := 1) (by simp)
  have e1 : ((1 : Nat) : Int) = 1 := rfl
  rw [e1] at h2
  simp only [Option.bind_some, h1, gdO, byO_head, Bool.true_and, h2, run2_eq, List.drop_succ_cons, List.drop_zero]
  unfold moreN
  by_cases hb : b = 46
  ·subst hb; rfl
  ·have : ((b.toNat : Int) == 46) = false := by
    have := mt (toNat_eq (b := b) (n := 46) (by omega)).1 hb
    simp
    omega
   rw [this]
   simp [hb]
theorem spanN_head {q : UInt8 → Bool} {b : UInt8} {t : List UInt8} (h : q b = true) : 1 ≤ spanN q (b :: t) := by
 rw [spanN_cons, if_pos h]; omega
theorem moreN_le (s : List UInt8) : moreN s + 1 ≤ s.length ∨ moreN s = 0 := by
 unfold moreN
 split
 ·rename_i b c t
  have := spanN_le digB (c :: t)
  split
  ·left; simpa using this
  ·right; rfl
 ·right; rfl
theorem number_eq {b : UInt8} {t : List UInt8} (hl : (b :: t).length < 4611686018427387904) : lex_number (b :: t) = some (prI (numS (b :: t))) := by
 generalize hs : b :: t = s at hl
 have hd := spanN_le digB s
 have hm := moreN_le (s.drop (spanN digB s))
 rw [List.length_drop] at hm
 have h0 : byO s 0 = some (b.toNat : Int) := by rw [← hs]; exact byO_head
 have hh : s.head? = some b := by rw [← hs]; rfl
 unfold lex_number numS prI
 rw [run2_eq]
 simp only [Option.bind_some, slO_drop hd]
 have hmore := more_eq (s.drop (spanN digB s))
 simp only [Option.bind_some] at hmore
 cases hg : gdO (decide (((s.drop (spanN digB s)).length : Int) > 1)) (byO (s.drop (spanN digB s)) 0) 0 with
 | none => rw [hg] at hmore; cases hmore
 | some x5 =>
  rw [hg] at hmore
  simp only [Option.bind_some] at hmore ⊢
  refine bind_at hmore ?_
  have h48 : ((b.toNat : Int) == 48) = decide (b = 48) := by
   rw [Bool.eq_iff_iff]
   have := toNat_eq (b := b) (n := 48) (by omega)
   simp
   constructor
   ·intro h; exact this.1 (by omega)
   ·rintro rfl; rfl
  simp only [h0, gdO_some, Option.bind_some, hh, Option.some.injEq]
  by_cases c1 : 15 < spanN digB s
  ·have : decide (((spanN digB s : Nat) : Int) > 15) = true := decide_eq_true (by omega)
   simp only [this, Bool.true_or, if_true]
   rw [if_pos (.inl c1)]
   rfl
  ·have e1 : decide (((spanN digB s : Nat) : Int) > 15) = false := decide_eq_false (by omega)
   by_cases c2 : 9 < moreN (s.drop (spanN digB s))
   ·have : decide (((moreN (s.drop (spanN digB s)) : Nat) : Int) > 9) = true := decide_eq_true (by omega)
    simp only [e1, this, Bool.false_or, Bool.true_or, if_true]
    rw [if_pos (.inr (.inl c2))]
    rfl
   ·have e2 : decide (((moreN (s.drop (spanN digB s)) : Nat) : Int) > 9) = false := decide_eq_false (by omega)
    simp only [e1, e2, Bool.or_self, Bool.not_false, Bool.true_and, Bool.false_or]
    by_cases c3 : 1 < spanN digB s ∧ b = 48
    ·have e3 : decide (((spanN digB s : Nat) : Int) > 1) = true := decide_eq_true (by omega)
     simp only [e3, cond_true, h48, decide_eq_true c3.2, Bool.and_self, if_true]
     rw [if_pos (.inr (.inr c3))]
     rfl
    ·have e3 : (decide (((spanN digB s : Nat) : Int) > 1) && ((bif decide (((spanN digB s : Nat) : Int) > 1) then (b.toNat : Int) else 0) == 48)) = false := by
      by_cases q : 1 < spanN digB s
      ·have e3 : decide (((spanN digB s : Nat) : Int) > 1) = true := decide_eq_true (by omega)
       simp only [e3, cond_true, h48, Bool.true_and]
       exact decide_eq_false (fun hb => c3 ⟨q, hb⟩)
      ·have e3 : decide (((spanN digB s : Nat) : Int) > 1) = false := decide_eq_false (by omega)
       simp only [e3, Bool.false_and]
     have hno : ¬ (15 < spanN digB s ∨ 9 < moreN (s.drop (spanN digB s)) ∨ 1 < spanN digB s ∧ b = 48) := fun h => h.elim c1 (fun h => h.elim c2 c3)
     simp only [e3, Bool.false_eq_true, if_false, if_neg hno]
     by_cases c4 : 0 < moreN (s.drop (spanN digB s))
     ·have e4 : IntKind.wrap .i64 (((spanN digB s : Nat) : Int) + 1) = ((spanN digB s + 1 : Nat) : Int) := by rw [wrap64 (by omega) (by omega)]; rfl
      have e5 : IntKind.wrap .i64 (((spanN digB s + 1 : Nat) : Int) + ((moreN (s.drop (spanN digB s)) : Nat) : Int)) = ((spanN digB s + 1 + moreN (s.drop (spanN digB s)) : Nat) : Int) := by rw [wrap64 (by omega) (by omega)]; omega
      rw [e4, e5, if_pos (decide_eq_true (show ((moreN (s.drop (spanN digB s)) : Nat) : Int) > 0 by omega)), if_pos c4]
      rfl
     ·rw [if_neg (show ¬ (decide (((moreN (s.drop (spanN digB s)) : Nat) : Int) > 0) = true) by simp; omega), if_neg c4]
      rfl
theorem indexByte_span (c : UInt8) : ∀ s : List UInt8, Lib.indexByte s c = if spanN (fun b => b != c) s = s.length then -1 else (spanN (fun b => b != c) s : Int)
 | [] => rfl
 | b :: t => by
  have hle := spanN_le (fun b => b != c) t
  unfold Lib.indexByte
  rw [indexByte_span c t, spanN_cons, List.length_cons]
  by_cases h : b = c
  ·subst h; simp
  ·have h1 : (b == c) = false := by simpa using h
   have h2 : (b != c) = true := by simpa using h
   rw [h1, if_neg (by simp)]
   simp only [h2, if_true]
   by_cases he : spanN (fun b => b != c) t = t.length
   ·rw [show (if spanN (fun b => b != c) t = t.length then (-1 : Int) else (spanN (fun b => b != c) t : Int)) = -1 from if_pos he, if_pos (show spanN (fun b => b != c) t + 1 = t.length + 1 by omega)]
    rfl
   ·rw [show (if spanN (fun b => b != c) t = t.length then (-1 : Int) else (spanN (fun b => b != c) t : Int)) = (spanN (fun b => b != c) t : Int) from if_neg he, if_neg (show ¬ spanN (fun b => b != c) t + 1 = t.length + 1 by omega)]
    have : (((spanN (fun b => b != c) t : Nat) : Int) == -1) = false := by simp
    rw [this]
    simp
theorem quoted_eq {b : UInt8} {t : List UInt8} (hl : (b :: t).length < 4611686018427387904) : lex_quoted (b :: t) = some (prI (quoS (b :: t))) := by
 have h1 := slO_drop (l := b :: t) (n := 1) (by simp)
 have e1 : ((1 : Nat) : Int) = 1 := rfl
 rw [e1] at h1
 have e2 : ((34 : Int).toNat.toUInt8) = 34 := by decide
 have hn := spanN_le notQ t
 have hidx : Lib.indexByte t 34 = if spanN notQ t = t.length then -1 else (spanN notQ t : Int) := indexByte_span 34 t
 simp only [List.length_cons] at hl
 unfold lex_quoted quoS prI
 simp only [h1, List.drop_succ_cons, List.drop_zero, Option.bind_some, strings_IndexByte, e2]
 by_cases c1 : spanN notQ t = t.length
 ·rw [if_pos c1] at hidx
  simp only [hidx, if_pos c1]
  rfl
 ·rw [if_neg c1] at hidx
  have e3 : IntKind.wrap .i64 (1 + ((spanN notQ t : Nat) : Int)) = ((spanN notQ t + 1 : Nat) : Int) := by rw [wrap64 (by omega) (by omega)]; omega
  have e4 : IntKind.wrap .i64 (((spanN notQ t : Nat) : Int) + 2) = ((spanN notQ t + 2 : Nat) : Int) := by rw [wrap64 (by omega) (by omega)]; rfl
  have h2 := slO_mid (l := b :: t) (a := 1) (b := spanN notQ t + 1) (by omega) (by simp; omega)
  rw [e1] at h2
  have e6 : decide (((spanN notQ t : Nat) : Int) < 0) = false := decide_eq_false (by omega)
  simp only [hidx, if_neg c1, e6, Bool.false_eq_true, if_false, e3, h2, List.take_succ_cons, List.drop_succ_cons, List.drop_zero, gdO_some, Option.bind_some, run3_eq, e4]
  by_cases c2 : 32 < spanN notQ t
  ·have : decide (((spanN notQ t : Nat) : Int) > 32) = true := decide_eq_true (by omega)
   simp only [this, Bool.true_or, if_true, if_pos (show 32 < spanN notQ t ∨ spanN prB (t.take (spanN notQ t)) < spanN notQ t from .inl c2)]
   rfl
  ·have e5 : decide (((spanN notQ t : Nat) : Int) > 32) = false := decide_eq_false (by omega)
   simp only [e5, Bool.not_false, cond_true, Bool.false_or]
   by_cases c3 : spanN prB (t.take (spanN notQ t)) < spanN notQ t
   ·have : decide (((spanN prB (t.take (spanN notQ t)) : Nat) : Int) < ((spanN notQ t : Nat) : Int)) = true := decide_eq_true (by omega)
    simp only [this, if_true, if_pos (show 32 < spanN notQ t ∨ spanN prB (t.take (spanN notQ t)) < spanN notQ t from .inr c3)]
    rfl
   ·have : decide (((spanN prB (t.take (spanN notQ t)) : Nat) : Int) < ((spanN notQ t : Nat) : Int)) = false := decide_eq_false (by omega)
    have hno : ¬ (32 < spanN notQ t ∨ spanN prB (t.take (spanN notQ t)) < spanN notQ t) := fun h => h.elim c2 c3
    simp only [this, Bool.false_eq_true, if_false, if_neg hno]
    rfl
end Go.Av.G
end
section
set_option linter.unusedVariables false
set_option linter.unusedSimpArgs false
set_option maxRecDepth 4000
set_option maxHeartbeats 4000000
namespace Go.Av.G
open Go Go.Av Go.Proofs
theorem contains_nil (sub : List UInt8) : Lib.contains [] sub = sub.isEmpty := by
 unfold Lib.contains Lib.index
 cases sub <;> rfl
theorem contains_cons (b : UInt8) (l sub : List UInt8) : Lib.contains (b :: l) sub = (sub.isPrefixOf (b :: l) || Lib.contains l sub) := by
 unfold Lib.contains
 have h := Lib.index_ge l sub
 rw [show Lib.index (b :: l) sub = if sub.isPrefixOf (b :: l) then 0 else if Lib.index l sub == -1 then -1 else Lib.index l sub + 1 from by rw [Lib.index]]
 cases hp : sub.isPrefixOf (b :: l) with
 | true => simp
 | false =>
  simp only [Bool.false_eq_true, if_false, Bool.false_or]
  by_cases he : Lib.index l sub = -1
  ·simp [he]
  ·have h1 : (Lib.index l sub == -1) = false := by simpa using he
   rw [h1]
   simp only [Bool.false_eq_true, if_false]
   rw [decide_eq_true (show (0 : Int) ≤ Lib.index l sub + 1 by omega), decide_eq_true (show (0 : Int) ≤ Lib.index l sub by omega)]
theorem span_ne (c : UInt8) : ∀ s : List UInt8, spanN (fun b => b != c) s = s.length ↔ c ∉ s
 | [] => by simp [spanN_nil]
 | b :: t => by
  have ih := span_ne c t
  have hle := spanN_le (fun b => b != c) t
  rw [spanN_cons, List.length_cons, List.mem_cons]
  by_cases h : b = c
  ·subst h; simp
  ·have h2 : (b != c) = true := by simpa using h
   simp only [h2, if_true]
   constructor
   ·intro he hm
    rcases hm with rfl | hm
    ·exact h rfl
    ·exact ih.1 (by omega) hm
   ·intro hm
    have := ih.2 (fun q => hm (.inr q))
    omega
theorem index_one (c : UInt8) : ∀ s : List UInt8, Lib.index s [c] = Lib.indexByte s c
 | [] => rfl
 | b :: t => by
  unfold Lib.index Lib.indexByte
  rw [index_one c t]
  have : ([c] : List UInt8).isPrefixOf (b :: t) = (b == c) := by
   simp [List.isPrefixOf]
   rw [Bool.eq_iff_iff]
   simp
   exact eq_comm
  rw [this]
theorem sign_eq {b : UInt8} {t : List UInt8} (hl : (b :: t).length < 4294967281) : lex_sign (b :: t) = some (prI (sigS (b :: t))) := by
 have e8 : (b.toNat : Int).toNat.toUInt8 = b := by simp
 have hone : decide ((Lib.indexByte [123, 125, 40, 41, 91, 93, 59, 58, 44, 37, 61, 60, 62, 43, 45, 42, 47] b) ≥ 0) = decide (b ∈ ones) := by
  rw [indexByte_span, Bool.eq_iff_iff, decide_eq_true_eq, decide_eq_true_eq]
  have h := span_ne b ones
  change (if spanN (fun c => c != b) ones = ones.length then (-1 : Int) else (spanN (fun c => c != b) ones : Int)) ≥ 0 ↔ b ∈ ones
  by_cases he : spanN (fun c => c != b) ones = ones.length
  ·rw [if_pos he]
   have := h.1 he
   simp [this]
  ·rw [if_neg he]
   constructor
   ·intro _; exact Classical.byContradiction fun q => he (h.2 q)
   ·intro _; omega
 have tail : ((byO (b :: t) 0).bind fun x8 =>
  (strings_IndexByte [123, 125, 40, 41, 91, 93, 59, 58, 44, 37, 61, 60, 62, 43, 45, 42, 47] x8).bind fun x9 =>
  if (decide (x9 ≥ 0)) = true then
   some ((1 : Int), (0 : Int))
  else
   some (0, 14)) = some (prI (if b ∈ ones then (1, 0) else (0, 14))) := by
  simp only [byO_head, Option.bind_some, strings_IndexByte, e8, hone]
  by_cases hm : b ∈ ones
  ·simp [hm, prI]
  ·simp [hm, prI]
 unfold lex_sign sigS
 match t, hl with
 | [], _ =>
  have h1 : decide ((([b] : List UInt8).length : Int) > 1) = false := by simp
  simp only [h1, Option.bind_some, gdO, Bool.false_and, Bool.false_eq_true, if_false]
  rw [tail]
  simp
 | c :: t, hl =>
  have h1 : decide (((b :: c :: t).length : Int) > 1) = true := by simp; omega
  have h2 := slO_front (l := b :: c :: t) (n := 2) (by simp)
  have e1 : ((2 : Nat) : Int) = 2 := rfl
  rw [e1] at h2
  have h3 : strings_Contains [60, 61, 32, 62, 61, 32, 46, 46] [b, c] = some (Lib.contains [60, 61, 32, 62, 61, 32, 46, 46] [b, c]) := by
   unfold strings_Contains; rw [if_pos (by simp)]
  have h4 : strings_Contains [b, c] [32] = some (Lib.contains [b, c] [32]) := by
   unfold strings_Contains; rw [if_pos (by simp)]
  simp only [h1, Option.bind_some, gdO, h2, List.take_succ_cons, List.take_zero, h3, Bool.true_and]
  have h5 : Lib.contains [60, 61, 32, 62, 61, 32, 46, 46] [b, c] = (((b == 60) && (c == 61)) || (((b == 61) && (c == 32)) || (((b == 32) && (c == 62)) || (((b == 62) && (c == 61)) || (((b == 61) && (c == 32)) || (((b == 32) && (c == 46)) || ((b == 46) && (c == 46)))))))) := by
   simp only [contains_cons, contains_nil, List.isPrefixOf, List.isEmpty, Bool.and_true, Bool.or_false, Bool.and_false]
  have h6 : Lib.contains [b, c] [32] = ((32 == b) || (32 == c)) := by
   simp only [contains_cons, contains_nil, List.isPrefixOf, List.isEmpty, Bool.and_true, Bool.or_false]
  have hx : (Lib.contains [60, 61, 32, 62, 61, 32, 46, 46] [b, c] && !(Lib.contains [b, c] [32])) = decide ([b, c] = [60, 61] ∨ [b, c] = [62, 61] ∨ [b, c] = [46, 46]) := by
   rw [h5, h6, Bool.eq_iff_iff]
   simp only [Bool.and_eq_true, Bool.or_eq_true, beq_iff_eq, Bool.not_eq_true', Bool.or_eq_false_iff, beq_eq_false_iff_ne, decide_eq_true_eq, List.cons.injEq, and_true]
   constructor
   ·rintro ⟨h | h | h | h | h | h | h, h7, h8⟩
    ·exact .inl h
    ·exact absurd h.2.symm h8
    ·exact absurd h.1.symm h7
    ·exact .inr (.inl h)
    ·exact absurd h.2.symm h8
    ·exact absurd h.1.symm h7
    ·exact .inr (.inr h)
   ·rintro (⟨rfl, rfl⟩ | ⟨rfl, rfl⟩ | ⟨rfl, rfl⟩)
    ·exact ⟨.inl ⟨rfl, rfl⟩, by decide, by decide⟩
    ·exact ⟨.inr (.inr (.inr (.inl ⟨rfl, rfl⟩))), by decide, by decide⟩
    ·exact ⟨.inr (.inr (.inr (.inr (.inr (.inr ⟨rfl, rfl⟩))))), by decide, by decide⟩
  have htk : (b :: c :: t).take 2 = [b, c] := rfl
  rw [htk] at *
  cases hc : Lib.contains [60, 61, 32, 62, 61, 32, 46, 46] [b, c] with
  | false =>
   rw [hc, Bool.false_and] at hx
   have hno : ¬ ([b, c] = [60, 61] ∨ [b, c] = [62, 61] ∨ [b, c] = [46, 46]) := of_decide_eq_false hx.symm
   simp only [gdO, Bool.false_and, Bool.false_eq_true, if_false, Option.bind_some]
   rw [tail]
   simp only [hno, if_false]
  | true =>
   rw [hc, Bool.true_and] at hx
   simp only [gdO, h4, Option.bind_some, Bool.true_and, hx, decide_eq_true_eq]
   by_cases hy : [b, c] = [60, 61] ∨ [b, c] = [62, 61] ∨ [b, c] = [46, 46]
   ·simp only [hy, if_true]
    rfl
   ·simp only [hy, if_false]
    simp only [decide_eq_true_eq] at tail
    exact tail
def trI (x : Nat × Nat × Nat) : Int × Int × Int := ((x.1 : Int), (x.2.1 : Int), (x.2.2 : Int))
theorem next_eq {b : UInt8} {t : List UInt8} (hl : (b :: t).length < 4294967281) : lex_next (b :: t) = some (trI (nextS (b :: t))) := by
 have c57 : ∀ n, lex_call57 47 n = lex_isLetter n ∧ lex_call57 49 n = lex_isDigit n ∧ lex_call57 51 n = lex_kinds_1 n ∧ lex_call57 53 n = lex_kinds_2 n := fun n => ⟨rfl, rfl, rfl, rfl⟩
 have c58 : ∀ s, lex_call58 48 s = lex_word s ∧ lex_call58 50 s = lex_number s ∧ lex_call58 52 s = lex_quoted s ∧ lex_call58 54 s = lex_sign s := fun s => ⟨rfl, rfl, rfl, rfl⟩
 have hL : ∀ x : Int, letB b = decide (97 ≤ (b.toNat : Int) ∧ (b.toNat : Int) ≤ 122) := fun _ => by
  unfold letB; rw [Bool.eq_iff_iff]; simp; omega
 have hD : ∀ x : Int, digB b = decide (48 ≤ (b.toNat : Int) ∧ (b.toNat : Int) ≤ 57) := fun _ => by
  unfold digB; rw [Bool.eq_iff_iff]; simp; omega
 have hQ : ((b.toNat : Int) == 34) = decide (b = 34) := by
  rw [Bool.eq_iff_iff]
  have := toNat_eq (b := b) (n := 34) (by omega)
  simp
  constructor
  ·intro h; exact this.1 (by omega)
  ·rintro rfl; rfl
 have r0 : rdO lex_kindsL 0 = some ⟨47, 48⟩ := rfl
 have r1 : rdO lex_kindsL 1 = some ⟨49, 50⟩ := rfl
 have r2 : rdO lex_kindsL 2 = some ⟨51, 52⟩ := rfl
 have r3 : rdO lex_kindsL 3 = some ⟨53, 54⟩ := rfl
 have d0 : decide ((0 : Int) < 4) = true := by decide
 have d1 : decide ((1 : Int) < 4) = true := by decide
 have d2 : decide ((2 : Int) < 4) = true := by decide
 have d3 : decide ((3 : Int) < 4) = true := by decide
 have w0 : IntKind.wrap .i64 ((0 : Int) + 1) = 1 := by rw [wrap64 (by omega) (by omega)]; rfl
 have w1 : IntKind.wrap .i64 ((1 : Int) + 1) = 2 := by rw [wrap64 (by omega) (by omega)]; rfl
 have w2 : IntKind.wrap .i64 ((2 : Int) + 1) = 3 := by rw [wrap64 (by omega) (by omega)]; rfl
 have hn : nextS (b :: t) = if letB b = true then (0, wordS (b :: t)) else if digB b = true then (1, numS (b :: t)) else if b = 34 then (2, quoS (b :: t)) else (3, sigS (b :: t)) := rfl
 unfold lex_next
 rw [hn]
 cases h1 : letB b with
 | true =>
  have := hL 0
  rw [h1] at this
  simp only [if_true]
  refine bind_at (loopO_out (o := .inr (0, (prI (wordS (b :: t))).1, (prI (wordS (b :: t))).2)) ?_) rfl
  simp only [d0, if_true, r0, byO_head, (c57 _).1, isLetter_eq, ← this, (c58 _).1, word_eq, Option.bind_some]
 | false =>
  have hl1 := hL 0
  rw [h1] at hl1
  simp only [Bool.false_eq_true, if_false]
  cases h2 : digB b with
  | true =>
   have hd1 := hD 0
   rw [h2] at hd1
   simp only [if_true]
   refine bind_at (o := some _) ?_ ?_ (x := .inr (1, (prI (numS (b :: t))).1, (prI (numS (b :: t))).2))
   ·rw [loopO_on (s' := (1 : Int)), loopO_out]
    ·simp only [d1, if_true, r1, byO_head, (c57 _).2.1, isDigit_eq, ← hd1, (c58 _).2.1, number_eq (show (b :: t).length < 4611686018427387904 by omega), Option.bind_some]
    ·simp only [d0, if_true, r0, byO_head, (c57 _).1, isLetter_eq, ← hl1, Option.bind_some, Bool.false_eq_true, if_false, w0]
   ·rfl
  | false =>
   have hd1 := hD 0
   rw [h2] at hd1
   simp only [Bool.false_eq_true, if_false]
   by_cases h3 : b = 34
   ·rw [if_pos h3]
    have hq1 := hQ
    rw [decide_eq_true h3] at hq1
    refine bind_at (o := some _) ?_ ?_ (x := .inr (2, (prI (quoS (b :: t))).1, (prI (quoS (b :: t))).2))
    ·rw [loopO_on (s' := (1 : Int)), loopO_on (s' := (2 : Int)), loopO_out]
     ·simp only [d2, if_true, r2, byO_head, (c57 _).2.2.1, lex_kinds_1, hq1, (c58 _).2.2.1, quoted_eq (show (b :: t).length < 4611686018427387904 by omega), Option.bind_some]
     ·simp only [d1, if_true, r1, byO_head, (c57 _).2.1, isDigit_eq, ← hd1, Option.bind_some, Bool.false_eq_true, if_false, w1]
     ·simp only [d0, if_true, r0, byO_head, (c57 _).1, isLetter_eq, ← hl1, Option.bind_some, Bool.false_eq_true, if_false, w0]
    ·rfl
   ·rw [if_neg h3]
    have hq1 := hQ
    rw [decide_eq_false h3] at hq1
    refine bind_at (o := some _) ?_ ?_ (x := .inr (3, (prI (sigS (b :: t))).1, (prI (sigS (b :: t))).2))
    ·rw [loopO_on (s' := (1 : Int)), loopO_on (s' := (2 : Int)), loopO_on (s' := (3 : Int)), loopO_out]
     ·simp only [d3, if_true, r3, byO_head, (c57 _).2.2.2, lex_kinds_2, (c58 _).2.2.2, sign_eq hl, Option.bind_some]
     ·simp only [d2, if_true, r2, byO_head, (c57 _).2.2.1, lex_kinds_1, hq1, Option.bind_some, Bool.false_eq_true, if_false, w2]
     ·simp only [d1, if_true, r1, byO_head, (c57 _).2.1, isDigit_eq, ← hd1, Option.bind_some, Bool.false_eq_true, if_false, w1]
     ·simp only [d0, if_true, r0, byO_head, (c57 _).1, isLetter_eq, ← hl1, Option.bind_some, Bool.false_eq_true, if_false, w0]
    ·rfl
end Go.Av.G
end
section
set_option linter.unusedVariables false
set_option linter.unusedSimpArgs false
set_option maxRecDepth 4000
set_option maxHeartbeats 4000000
namespace Go.Av.G
open Go Go.Av Go.Proofs
def blankB (b : UInt8) : Bool := b == 32 || b == 9 || b == 10
def skipM : Bool → List UInt8 → Nat
 | _, [] => 0
 | true, b :: t => if b = 10 then 1 + skipM false t else 1 + skipM true t
 | false, b :: t => if blankB b = true then 1 + skipM false t else if b = 35 then 1 + skipM true t else 0
theorem skipM_le : ∀ (r : Bool) (s : List UInt8), skipM r s ≤ s.length
 | _, [] => by simp [skipM]
 | true, b :: t => by
  have h1 := skipM_le false t
  have h2 := skipM_le true t
  unfold skipM
  simp only [List.length_cons]
  split <;> omega
 | false, b :: t => by
  have h1 := skipM_le false t
  have h2 := skipM_le true t
  unfold skipM
  simp only [List.length_cons]
  split
  ·omega
  ·split <;> omega
theorem skipM_trim : ∀ s : List UInt8, skipM false s = (s.length - (Lib.trimLeftS s [32, 9, 10]).length) + skipM false (Lib.trimLeftS s [32, 9, 10]) ∧ (Lib.trimLeftS s [32, 9, 10]).length ≤ s.length ∧ (∀ b t, Lib.trimLeftS s [32, 9, 10] = b :: t → blankB b = false)
 | [] => by simp [skipM, Lib.trimLeftS]
 | b :: t => by
  obtain ⟨h1, h2, h3⟩ := skipM_trim t
  have hc : ([32, 9, 10] : List UInt8).contains b = blankB b := by
   unfold blankB
   simp only [List.contains_cons, List.contains_nil, Bool.or_false]
   cases b == 32 <;> cases b == 9 <;> cases b == 10 <;> rfl
  unfold Lib.trimLeftS at h1 h2 h3 ⊢
  rw [List.dropWhile_cons, hc]
  cases hb : blankB b with
  | true =>
   simp only [if_true, List.length_cons]
   rw [skipM, if_pos hb]
   exact ⟨by omega, by omega, h3⟩
  | false =>
   simp only [Bool.false_eq_true, if_false, Nat.sub_self, Nat.zero_add]
   exact ⟨trivial, Nat.le_refl _, fun b' t' e => by cases e; exact hb⟩
theorem skipM_true : ∀ t : List UInt8, skipM true t = if spanN (fun b => b != 10) t = t.length then t.length else spanN (fun b => b != 10) t + 1 + skipM false (t.drop (spanN (fun b => b != 10) t + 1))
 | [] => by simp [skipM, spanN_nil]
 | b :: t => by
  have ih := skipM_true t
  have hle := spanN_le (fun b => b != 10) t
  rw [skipM, spanN_cons, List.length_cons]
  by_cases hb : b = 10
  ·subst hb
   simp
  ·have h2 : (b != 10) = true := by simpa using hb
   rw [if_neg hb, ih]
   simp only [h2, if_true, List.drop_succ_cons]
   by_cases he : spanN (fun b => b != 10) t = t.length
   ·rw [if_pos he, if_pos (by omega)]; omega
   ·rw [if_neg he, if_neg (by omega)]; omega
theorem skip_loop {s : List UInt8} (hl : s.length < 4294967281) : ∀ (n : Nat) (rest : List UInt8), rest.length ≤ n → rest.length ≤ s.length →
  loopO (fun (qj2 : List UInt8) => match qj2 with
  | rest3 => (
   (strings_TrimLeft rest3 [32, 9, 10]).bind fun x4 =>
   (strings_HasPrefix x4 [35]).bind fun x5 =>
   if (!x5) = true then
    some (.inr (IntKind.wrap .i64 ((s.length : Int) - (x4.length : Int))))
   else
    (strings_Cut x4 [10]).bind fun x6 =>
    if (!x6.2.2) = true then
     some (.inr (s.length : Int))
    else
     some (.inl x6.2.1) : Option ((List UInt8) ⊕ Int))) rest = some ((s.length - rest.length + skipM false rest : Nat) : Int) := by
 intro n
 induction n with
 | zero =>
  intro rest hn hs
  match rest, hn with
  | [], _ =>
   have h1 : strings_TrimLeft [] [32, 9, 10] = some [] := by unfold strings_TrimLeft; rw [if_pos (by decide)]; rfl
   rw [loopO_out (o := (s.length : Int))]
   ·simp [skipM]
   ·have h2 : strings_HasPrefix [] [35] = some false := rfl
    simp only [h1, h2, Option.bind_some, Bool.not_false, if_true]
    rw [wrap64 (by simp <;> omega) (by simp <;> omega)]
    simp
 | succ n ih =>
  intro rest hn hs
  obtain ⟨h1, h2, h3⟩ := skipM_trim rest
  have ht : strings_TrimLeft rest [32, 9, 10] = some (Lib.trimLeftS rest [32, 9, 10]) := by unfold strings_TrimLeft; rw [if_pos (by decide)]
  generalize Lib.trimLeftS rest [32, 9, 10] = d at h1 h2 h3 ht
  have hstop : (∀ t, d ≠ 35 :: t) → strings_HasPrefix d [35] = some false ∧ skipM false d = 0 := by
   intro hd
   match d, h3, hd with
   | [], _, _ => exact ⟨rfl, rfl⟩
   | b :: t, h3, hd =>
    have hb := h3 b t rfl
    have hne : b ≠ 35 := fun e => hd t (by rw [e])
    refine ⟨?_, ?_⟩
    ·unfold strings_HasPrefix Lib.hasPrefix
     have : ((35 : UInt8) == b) = false := by simpa using fun e => hne e.symm
     simp [List.isPrefixOf, this]
    ·rw [skipM, if_neg (by simp [hb]), if_neg hne]
  by_cases hd : ∃ t, d = 35 :: t
  ·obtain ⟨t, rfl⟩ := hd
   have hp : strings_HasPrefix (35 :: t) [35] = some true := by unfold strings_HasPrefix Lib.hasPrefix; simp [List.isPrefixOf]
   have hcut : strings_Cut (35 :: t) [10] = some (Lib.cut (35 :: t) [10]) := by unfold strings_Cut; rw [if_pos (by omega)]
   have hsk : skipM false (35 :: t) = 1 + skipM true t := by rw [skipM, if_neg (by decide), if_pos rfl]
   have hix : Lib.index (35 :: t) [10] = if spanN (fun b => b != 10) t = t.length then -1 else ((spanN (fun b => b != 10) t + 1 : Nat) : Int) := by
    rw [index_one, indexByte_span, spanN_cons]
    simp only [show ((35 : UInt8) != 10) = true from rfl, if_true, List.length_cons]
    by_cases he : spanN (fun b => b != 10) t = t.length
    ·rw [if_pos he, if_pos (by omega)]
    ·rw [if_neg he, if_neg (by omega)]
   have hle := spanN_le (fun b => b != 10) t
   simp only [List.length_cons] at h1 h2
   have htr := skipM_true t
   by_cases he : spanN (fun b => b != 10) t = t.length
   ·rw [if_pos he] at hix htr
    rw [loopO_out (o := (s.length : Int))]
    ·congr 1
     omega
    ·have : Lib.cut (35 :: t) [10] = (35 :: t, [], false) := by unfold Lib.cut; rw [hix, if_neg (by omega)]
     simp only [ht, hp, hcut, this, Option.bind_some, Bool.not_true, Bool.false_eq_true, if_false, Bool.not_false, if_true]
   ·rw [if_neg he] at hix htr
    have hc : Lib.cut (35 :: t) [10] = ((35 :: t).take (spanN (fun b => b != 10) t + 1), t.drop (spanN (fun b => b != 10) t + 1), true) := by
     unfold Lib.cut
     rw [hix, if_pos (by omega)]
     simp
    have hlen : (t.drop (spanN (fun b => b != 10) t + 1)).length = t.length - (spanN (fun b => b != 10) t + 1) := List.length_drop ..
    rw [loopO_on (s' := t.drop (spanN (fun b => b != 10) t + 1)), ih _ (by omega) (by omega)]
    ·congr 1
     omega
    ·simp only [ht, hp, hcut, hc, Option.bind_some, Bool.not_true, Bool.false_eq_true, if_false]
  ·obtain ⟨hp, hz⟩ := hstop (fun t e => hd ⟨t, e⟩)
   rw [loopO_out (o := ((s.length - d.length : Nat) : Int))]
   ·congr 1
    omega
   ·simp only [ht, hp, Option.bind_some, Bool.not_false, if_true]
    rw [wrap64 (by omega) (by omega)]
    congr 2
    omega
theorem skip_eq {s : List UInt8} (hl : s.length < 4294967281) : lex_skip s = some (skipM false s : Int) := by
 unfold lex_skip
 rw [skip_loop hl s.length s (Nat.le_refl _) (Nat.le_refl _)]
 simp
def plS (s : List UInt8) : Int × Int := ((s.count 10 : Int) + 1, (s.length : Int) - Lib.lastIndexByte ⟨s.toArray⟩ 10)
theorem lastIdx_of (s : List UInt8) : (Lib.lastIndexByte ⟨s.toArray⟩ 10 = -1 ∧ 10 ∉ s) ∨ ∃ i : Nat, i < s.length ∧ Lib.lastIndexByte ⟨s.toArray⟩ 10 = i ∧ s[i]? = some 10 ∧ ∀ j, i < j → s[j]? ≠ some 10 := by
 have hsz : (ByteArray.mk s.toArray).size = s.length := by simp [ByteArray.size]
 have hat : ∀ j, j < s.length → ((((ByteArray.mk s.toArray).data[j]!).toNat : Int) = 10 ↔ s[j]? = some 10) := by
  intro j hj
  have e : (ByteArray.mk s.toArray).data[j]! = s[j] := by
   simp [hj]
  rw [e, List.getElem?_eq_getElem hj, Option.some.injEq]
  have := toNat_eq (b := s[j]) (n := 10) (by omega)
  constructor
  ·intro h; exact this.1 (by omega)
  ·intro h; rw [h]; rfl
 have h := Lib.lastIdx_spec ⟨s.toArray⟩ 10 s.length
 unfold Lib.lastIndexByte
 rw [hsz]
 rcases h with ⟨h1, h2⟩ | ⟨i, h1, h2, h3, h4⟩
 ·refine .inl ⟨h1, fun hm => ?_⟩
  obtain ⟨j, hj, he⟩ := List.getElem_of_mem hm
  exact h2 j hj ((hat j hj).2 (by rw [List.getElem?_eq_getElem hj, he]))
 ·refine .inr ⟨i, h1, h2, (hat i h1).1 h3, fun j hij he => ?_⟩
  have hj : j < s.length := (List.getElem?_eq_some_iff.1 he).1
  exact h4 j hij hj ((hat j hj).2 he)
theorem place_eq {s : List UInt8} (hl : s.length < 4611686018427387904) : lex_place s = some (plS s) := by
 have hr : -1 ≤ Lib.lastIndexByte ⟨s.toArray⟩ 10 ∧ Lib.lastIndexByte ⟨s.toArray⟩ 10 < s.length := by
  rcases lastIdx_of s with ⟨h, _⟩ | ⟨i, h1, h2, _⟩ <;> omega
 have hc : s.count 10 ≤ s.length := List.count_le_length
 unfold lex_place plS strings_LastIndexByte strings_Count Lib.countByte
 rw [if_pos hl]
 simp only [Option.bind_some]
 rw [wrap64 (by omega) (by omega), wrap64 (by omega) (by omega)]
end Go.Av.G
end
section
set_option linter.unusedVariables false
set_option linter.unusedSimpArgs false
set_option maxRecDepth 4000
set_option maxHeartbeats 4000000
namespace Go.Av.G
open Go Go.Av Go.Proofs
theorem nextS_len : ∀ {s : List UInt8} {k n : Nat}, nextS s = (k, n, 0) → 1 ≤ n ∧ n ≤ s.length
 | [], k, n, h => by simp [nextS] at h
 | b :: t, k, n, h => by
  have hn : nextS (b :: t) = if letB b = true then (0, wordS (b :: t)) else if digB b = true then (1, numS (b :: t)) else if b = 34 then (2, quoS (b :: t)) else (3, sigS (b :: t)) := rfl
  rw [hn] at h
  by_cases h1 : letB b = true
  ·rw [if_pos h1] at h
   unfold wordS at h
   split at h
   ·simp at h
   ·simp only [Prod.mk.injEq] at h
    have hw : worB b = true := by
     have := of_decide_eq_true h1
     unfold worB; simp; omega
    have := spanN_head (t := t) hw
    have := spanN_le worB (b :: t)
    omega
  ·rw [if_neg h1] at h
   by_cases h2 : digB b = true
   ·rw [if_pos h2] at h
    have hd1 := spanN_head (t := t) h2
    have hd2 := spanN_le digB (b :: t)
    have hm := moreN_le ((b :: t).drop (spanN digB (b :: t)))
    rw [List.length_drop] at hm
    unfold numS at h
    split at h
    ·simp at h
    ·split at h
     ·simp only [Prod.mk.injEq] at h
      omega
     ·simp only [Prod.mk.injEq] at h
      omega
   ·rw [if_neg h2] at h
    by_cases h3 : b = 34
    ·rw [if_pos h3] at h
     have hq := spanN_le notQ t
     unfold quoS at h
     simp only [List.drop_succ_cons, List.drop_zero] at h
     split at h
     ·simp at h
     ·split at h
      ·simp at h
      ·simp only [Prod.mk.injEq] at h
       simp only [List.length_cons]
       omega
    ·rw [if_neg h3] at h
     unfold sigS at h
     simp only [List.length_cons]
     by_cases hx : (b :: t).take 2 = [60, 61] ∨ (b :: t).take 2 = [62, 61] ∨ (b :: t).take 2 = [46, 46]
     ·simp only [hx, if_true, Prod.mk.injEq] at h
      have : 1 ≤ t.length := by
       match t, hx with
       | [], hx => simp at hx
       | c :: t, _ => simp
      omega
     ·simp only [hx, if_false] at h
      by_cases hm : b ∈ ones
      ·simp only [hm, if_true, Prod.mk.injEq] at h; omega
      ·simp [hm] at h
def lexL : Nat → List UInt8 → Nat → Nat → List (Nat × Nat × Nat) ⊕ (Nat × Nat)
 | 0, _, _, _ => .inl []
 | f + 1, rest, at_, k =>
  if rest = [] then .inl []
  else if (nextS rest).2.2 ≠ 0 then .inr (at_, (nextS rest).2.2)
  else if k = 1500 then .inr (at_, 6)
  else match lexL f ((rest.drop (nextS rest).2.1).drop (skipM false (rest.drop (nextS rest).2.1))) (at_ + (nextS rest).2.1 + skipM false (rest.drop (nextS rest).2.1)) (k + 1) with
   | .inl l => .inl ((at_, (nextS rest).1, (nextS rest).2.1) :: l)
   | .inr e => .inr e
def tokS (text : List UInt8) (x : Nat × Nat × Nat) : T_api_Token := ⟨(x.2.1 : Int), (plS (text.take x.1)).1, (plS (text.take x.1)).2, (text.drop x.1).take x.2.2⟩
def allS (text : List UInt8) : List (Nat × Nat × Nat) ⊕ (Nat × Nat) := lexL (text.length + 1) (text.drop (skipM false text)) (skipM false text) 0
theorem all_loop {text : List UInt8} (hl : text.length ≤ 8000) : ∀ (f at_ : Nat) (row : List T_api_Token), at_ ≤ text.length → text.length - at_ < f → row.length ≤ 1500 →
  loopO (fun (qj3 : Int × (List T_api_Token)) => match qj3 with
   | (at_4, row5) => (
    if (decide (at_4 < (text.length : Int))) = true then
     (slO text at_4 (text.length : Int)).bind fun x6 =>
     (lex_next x6).bind fun x7 =>
     if (x7.2.2 != 0) = true then
      some (.inr (.inr (([] : List T_api_Token), at_4, x7.2.2)))
     else
      if ((row5.length : Int) == 1500) = true then
       some (.inr (.inr (([] : List T_api_Token), at_4, 6)))
      else
       (slO text 0 at_4).bind fun x8 =>
       (lex_place x8).bind fun x9 =>
       (slO text at_4 (IntKind.wrap .i64 (at_4 + x7.2.1))).bind fun x10 =>
       (apO 40 row5 [(⟨x7.1, x9.1, x9.2, x10⟩ : T_api_Token)]).bind fun x11 =>
       (slO text (IntKind.wrap .i64 (at_4 + x7.2.1)) (text.length : Int)).bind fun x12 =>
       (lex_skip x12).bind fun x13 =>
       some (.inl (IntKind.wrap .i64 ((IntKind.wrap .i64 (at_4 + x7.2.1)) + x13), x11))
    else
     some (.inr (.inl row5)) : Option ((Int × (List T_api_Token)) ⊕ ((List T_api_Token) ⊕ ((List T_api_Token) × Int × Int))))) ((at_ : Int), row)
   = some (match lexL f (text.drop at_) at_ row.length with | .inl l => .inl (row ++ l.map (tokS text)) | .inr e => .inr ([], (e.1 : Int), (e.2 : Int))) := by
 intro f
 induction f with
 | zero => intro at_ row h1 h2; omega
 | succ f ih =>
  intro at_ row h1 h2 h3
  by_cases he : at_ = text.length
  ·subst he
   rw [loopO_out (o := .inl row)]
   ·simp [lexL]
   ·have : decide (((text.length : Nat) : Int) < (text.length : Int)) = false := by simp
    simp only [this, Bool.false_eq_true, if_false]
  ·have hlt : at_ < text.length := by omega
   have hd : decide ((at_ : Int) < (text.length : Int)) = true := by simp; omega
   have hrest : text.drop at_ ≠ [] := by simp; omega
   obtain ⟨b, t, hbt⟩ : ∃ b t, text.drop at_ = b :: t := by
    cases hx : text.drop at_ with
    | nil => exact absurd hx hrest
    | cons b t => exact ⟨b, t, rfl⟩
   have hlr : (b :: t).length = text.length - at_ := by rw [← hbt, List.length_drop]
   have hnext := next_eq (b := b) (t := t) (by omega)
   rw [← hbt] at hnext
   have hs1 := slO_drop (l := text) (n := at_) h1
   have hs2 := slO_front (l := text) (n := at_) h1
   rw [lexL, if_neg hrest]
   generalize hnx : nextS (text.drop at_) = nx at hnext
   obtain ⟨k, n, e⟩ := nx
   simp only [trI] at hnext
   by_cases hee : e = 0
   ·subst hee
    obtain ⟨hn1, hn2⟩ := nextS_len hnx
    rw [List.length_drop] at hn2
    simp only [ne_eq, not_true_eq_false, if_false]
    by_cases hfull : row.length = 1500
    ·rw [if_pos hfull, loopO_out (o := .inr ([], (at_ : Int), 6))]
     ·rfl
     ·have : ((row.length : Int) == 1500) = true := by simp [hfull]
      simp only [hd, if_true, hs1, hnext, Option.bind_some, Int.natCast_zero, bne_self_eq_false, Bool.false_eq_true, if_false, this]
    ·rw [if_neg hfull]
     have e1 : IntKind.wrap .i64 ((at_ : Int) + (n : Int)) = ((at_ + n : Nat) : Int) := by rw [wrap64 (by omega) (by omega)]; omega
     have hs3 := slO_mid (l := text) (a := at_) (b := at_ + n) (by omega) (by omega)
     have hs4 := slO_drop (l := text) (n := at_ + n) (by omega)
     have hdd : text.drop (at_ + n) = (text.drop at_).drop n := by rw [List.drop_drop]
     have hsk := skipM_le false ((text.drop at_).drop n)
     rw [List.length_drop, List.length_drop] at hsk
     have hskip := skip_eq (s := (text.drop at_).drop n) (by rw [List.length_drop, List.length_drop]; omega)
     have e2 : IntKind.wrap .i64 (((at_ + n : Nat) : Int) + (skipM false ((text.drop at_).drop n) : Int)) = ((at_ + n + skipM false ((text.drop at_).drop n) : Nat) : Int) := by rw [wrap64 (by omega) (by omega)]; omega
     have hpl := place_eq (s := text.take at_) (by simp; omega)
     have hap : ∀ x : T_api_Token, apO 40 row [x] = some (row ++ [x]) := fun x => by
      unfold apO
      rw [if_pos (by simp; omega)]
     have hmid : (text.take (at_ + n)).drop at_ = (text.drop at_).take n := by rw [List.drop_take]; congr 1; omega
     have hlen : ((row.length : Int) == 1500) = false := by simp; omega
     rw [loopO_on (s' := (((at_ + n + skipM false ((text.drop at_).drop n) : Nat) : Int), row ++ [tokS text (at_, k, n)])), ih (at_ + n + skipM false ((text.drop at_).drop n)) (row ++ [tokS text (at_, k, n)]) (by omega) (by omega) (by simp; omega)]
     ·have hdr : text.drop (at_ + n + skipM false ((text.drop at_).drop n)) = ((text.drop at_).drop n).drop (skipM false ((text.drop at_).drop n)) := by
       rw [List.drop_drop, List.drop_drop]
      rw [hdr, List.length_append, List.length_singleton]
      cases lexL f (((text.drop at_).drop n).drop (skipM false ((text.drop at_).drop n))) (at_ + n + skipM false ((text.drop at_).drop n)) (row.length + 1) with
      | inl l => simp
      | inr e => rfl
     ·simp only [hd, if_true, hs1, hnext, Option.bind_some, Int.natCast_zero, bne_self_eq_false, Bool.false_eq_true, if_false, hlen, hs2, hpl, e1, hs3, hmid, hap, hs4, hdd, hskip, e2]
      rfl
   ·have hne : ((e : Int) != 0) = true := by simp; omega
    simp only [ne_eq, hee, not_false_eq_true, if_true]
    rw [loopO_out (o := .inr ([], (at_ : Int), (e : Int)))]
    simp only [hd, if_true, hs1, hnext, Option.bind_some, hne]
theorem all_eq {text : List UInt8} (hl : text.length ≤ 8000) : lex_All text = some (match allS text with | .inl l => (l.map (tokS text), 0, 0) | .inr e => ([], (e.1 : Int), (e.2 : Int))) := by
 have hs := skipM_le false text
 unfold lex_All allS
 have h1 : decide ((text.length : Int) > 8000) = false := decide_eq_false (by omega)
 simp only [h1, Bool.false_eq_true, if_false, skip_eq (show text.length < 4294967281 by omega), Option.bind_some]
 have := all_loop hl (text.length + 1) (skipM false text) [] hs (by omega) (by simp)
 refine bind_at this ?_
 simp only [List.length_nil]
 cases lexL (text.length + 1) (text.drop (skipM false text)) (skipM false text) 0 with
 | inl l => simp
 | inr e => rfl
theorem alive : cashbooklaw14_alive = some true := by
 unfold cashbooklaw14_alive
 rw [all_eq (by decide)]
 have h : (match allS [114, 97, 116, 101, 32, 49, 46, 50, 53, 37, 32, 35, 32, 97, 32, 114, 101, 109, 97, 114, 107] with | .inl l => (l.map (tokS [114, 97, 116, 101, 32, 49, 46, 50, 53, 37, 32, 35, 32, 97, 32, 114, 101, 109, 97, 114, 107]), (0 : Int), (0 : Int)) | .inr e => ([], (e.1 : Int), (e.2 : Int))) = ([⟨0, 1, 1, [114, 97, 116, 101]⟩, ⟨1, 1, 6, [49, 46, 50, 53]⟩, ⟨3, 1, 10, [37]⟩], 0, 0) := by decide +kernel
 rw [h]
 rfl
end Go.Av.G
end
section
set_option linter.unusedVariables false
set_option linter.unusedSimpArgs false
set_option maxRecDepth 4000
set_option maxHeartbeats 4000000
namespace Go.Av.G
open Go Go.Av Go.Proofs
theorem slO_cap {α : Type} (l : List α) (m : Nat) : slO l 0 (if (m : Int) < (l.length : Int) then (m : Int) else (l.length : Int)) = some (l.take m) := by
 by_cases h : m < l.length
 ·rw [if_pos (by omega)]
  exact slO_front (by omega)
 ·rw [if_neg (by omega), slO_front (Nat.le_refl _), List.take_length, List.take_of_length_le (by omega)]
end Go.Av.G
end
section
set_option linter.unusedVariables false
set_option linter.unusedSimpArgs false
set_option maxRecDepth 4000
set_option maxHeartbeats 4000000
namespace Go.Av.G
open Go Go.Av Go.Proofs
def okT (t : T_api_Token) : Bool := decide (((nextS t.f_Text).1 : Int) = t.f_Kind ∧ (nextS t.f_Text).2.1 = t.f_Text.length ∧ (nextS t.f_Text).2.2 = 0)
theorem okT_spec {t : T_api_Token} (h : okT t = true) : ∃ k : Nat, t.f_Kind = (k : Int) ∧ nextS t.f_Text = (k, t.f_Text.length, 0) := by
 obtain ⟨h1, h2, h3⟩ := of_decide_eq_true h
 exact ⟨(nextS t.f_Text).1, h1.symm, by rw [← h2, ← h3]⟩
theorem Right_eq {t : T_api_Token} (hl : t.f_Text.length < 4294967281) : lex_Right t = some (okT t) := by
 unfold lex_Right okT
 cases ht : t.f_Text with
 | nil =>
  have e0 : (([] : List UInt8) == []) = true := rfl
  rw [if_pos e0]
  simp [nextS]
 | cons b u =>
  rw [ht] at hl
  have he : ((b :: u : List UInt8) == []) = false := rfl
  simp only [he, Bool.false_eq_true, if_false, next_eq hl, trI, Option.bind_some, Option.some.injEq]
  rw [Bool.eq_iff_iff]
  simp only [Bool.and_eq_true, beq_iff_eq, decide_eq_true_eq]
  constructor
  ·rintro ⟨⟨h1, h2⟩, h3⟩
   exact ⟨h2, by omega, by omega⟩
  ·rintro ⟨h1, h2, h3⟩
   exact ⟨⟨by omega, h1⟩, by omega⟩
def jn (l : List T_api_Token) : List UInt8 := Lib.join (l.map (fun t => t.f_Text)) [32]
theorem jn_nil : jn [] = [] := rfl
theorem jn_one (t : T_api_Token) : jn [t] = t.f_Text := by simp [jn, Lib.join, List.intercalate]
theorem jn_cons (t u : T_api_Token) (l : List T_api_Token) : jn (t :: u :: l) = t.f_Text ++ 32 :: jn (u :: l) := by simp [jn, Lib.join, List.intercalate]
def sumT (l : List T_api_Token) : Nat := (l.map fun t => t.f_Text.length).sum
theorem jn_len : ∀ l : List T_api_Token, (jn l).length ≤ sumT l + l.length
 | [] => by simp [jn_nil]
 | [t] => by simp [jn_one, sumT]
 | t :: u :: l => by
  have ih := jn_len (u :: l)
  rw [jn_cons]
  simp [sumT] at ih ⊢
  omega
theorem join_loop {L : List T_api_Token} (hL : L.length ≤ 1000000) (hT : ∀ t ∈ L, t.f_Text.length < 4294967281) : ∀ (l pre : List T_api_Token), L = pre ++ l →
 loopO (fun (qj2 : Int × (List (List UInt8))) => match qj2 with
  | (x3, row4) => (
   if (decide (x3 < (L.length : Int))) = true then
    (rdO L x3).bind fun x5 =>
    (lex_Right x5).bind fun x6 =>
    if (!x6) = true then
     some (.inr (.inr ([], 1)))
    else
     (apO 16 row4 [x5.f_Text]).bind fun x7 =>
     some (.inl (IntKind.wrap .i64 (x3 + 1), x7))
   else
    some (.inr (.inl row4)) : Option ((Int × (List (List UInt8))) ⊕ ((List (List UInt8)) ⊕ ((List UInt8) × Int))))) ((pre.length : Int), pre.map (fun t => t.f_Text)) = some (if l.all okT = true then .inl (L.map (fun t => t.f_Text)) else .inr ([], 1)) := by
 intro l
 induction l with
 | nil =>
  intro pre he
  rw [loopO_out (o := .inl (pre.map (fun t => t.f_Text)))]
  ·simp [he]
  ·have : decide ((pre.length : Int) < (L.length : Int)) = false := by rw [he]; simp
   simp only [this, Bool.false_eq_true, if_false]
 | cons t l ih =>
  intro pre he
  have hlen : L.length = pre.length + (l.length + 1) := by rw [he]; simp
  have hd : decide ((pre.length : Int) < (L.length : Int)) = true := by simp; omega
  have hrd : rdO L (pre.length : Int) = some t := by
   rw [rdO_at (by omega)]
   congr 1
   subst he
   simp
  have hr := Right_eq (hT t (by rw [he]; simp))
  have e1 : IntKind.wrap .i64 ((pre.length : Int) + 1) = (((pre ++ [t]).length : Nat) : Int) := by rw [wrap64 (by omega) (by omega)]; simp
  have hap : apO 16 (pre.map (fun t => t.f_Text)) [t.f_Text] = some ((pre ++ [t]).map (fun t => t.f_Text)) := by
   unfold apO
   rw [if_pos (by simp; omega)]
   simp
  cases hk : okT t with
  | true =>
   rw [loopO_on (s' := ((((pre ++ [t]).length : Nat) : Int), (pre ++ [t]).map (fun t => t.f_Text))), ih (pre ++ [t]) (by rw [he]; simp)]
   ·simp [hk]
   ·simp only [hd, if_true, hrd, hr, hk, Option.bind_some, Bool.not_true, Bool.false_eq_true, if_false, hap, e1]
  | false =>
   rw [loopO_out (o := .inr ([], 1))]
   ·simp [hk]
   ·simp only [hd, if_true, hrd, hr, hk, Option.bind_some, Bool.not_false, if_true]
theorem Join_eq {L : List T_api_Token} (hL : L.length ≤ 1000000) (hT : ∀ t ∈ L, t.f_Text.length < 4294967281) (hj : (jn L).length ≤ 140737488355328) :
  lex_Join L = some (if L.all okT = true then (if 1500 < L.length then ([], 6) else if 8000 < (jn L).length then ([], 4) else (jn L, 0)) else ([], 1)) := by
 unfold lex_Join
 have := join_loop hL hT L [] rfl
 simp only [List.length_nil, Int.natCast_zero, List.map_nil] at this
 refine bind_at this ?_
 cases hk : L.all okT with
 | false => rfl
 | true =>
  have hjoin : strings_Join (L.map (fun t => t.f_Text)) [32] = some (jn L) := by
   unfold strings_Join
   rw [if_pos ⟨by rw [List.length_map]; omega, hj⟩]
   rfl
  simp only [if_true, hjoin, Option.bind_some]
  by_cases h1 : 1500 < L.length
  ·rw [if_pos h1, if_pos (by simp; omega)]
  ·rw [if_neg h1, if_neg (by simp; omega)]
   by_cases h2 : 8000 < (jn L).length
   ·rw [if_pos h2, if_pos (by simp; omega)]
   ·rw [if_neg h2, if_neg (by simp; omega)]
theorem spanN_app {q : UInt8 → Bool} {u : List UInt8} (hq : ∀ b v, u = b :: v → q b = false) : ∀ s : List UInt8, spanN q (s ++ u) = spanN q s
 | [] => by
  match u, hq with
  | [], _ => rfl
  | b :: v, hq => rw [List.nil_append, spanN_cons, hq b v rfl]; rfl
 | b :: t => by rw [List.cons_append, spanN_cons, spanN_cons, spanN_app hq t]
theorem spanN_app_lt {q : UInt8 → Bool} {u : List UInt8} : ∀ s : List UInt8, spanN q s < s.length → spanN q (s ++ u) = spanN q s
 | [], h => by simp at h
 | b :: t, h => by
  rw [spanN_cons, List.length_cons] at h
  rw [List.cons_append, spanN_cons, spanN_cons]
  split
  ·rename_i hb
   rw [if_pos hb] at h
   rw [spanN_app_lt t (by omega)]
  ·rfl
theorem nextS_app {T u : List UInt8} {k : Nat} (h : nextS T = (k, T.length, 0)) : nextS (T ++ 32 :: u) = (k, T.length, 0) := by
 cases T with
 | nil => simp [nextS] at h
 | cons b t =>
  have hn : ∀ t, nextS (b :: t) = if letB b = true then (0, wordS (b :: t)) else if digB b = true then (1, numS (b :: t)) else if b = 34 then (2, quoS (b :: t)) else (3, sigS (b :: t)) := fun _ => rfl
  rw [List.cons_append, hn]
  rw [hn] at h
  have hc : b :: (t ++ 32 :: u) = (b :: t) ++ 32 :: u := rfl
  by_cases h1 : letB b = true
  ·rw [if_pos h1] at h ⊢
   rw [hc]
   unfold wordS at h ⊢
   rw [spanN_app (fun b v e => by cases e; rfl)]
   exact h
  ·rw [if_neg h1] at h ⊢
   by_cases h2 : digB b = true
   ·rw [if_pos h2] at h ⊢
    rw [hc]
    have hspan : spanN digB ((b :: t) ++ 32 :: u) = spanN digB (b :: t) := spanN_app (fun b v e => by cases e; rfl) _
    have hle := spanN_le digB (b :: t)
    have hdrop : ((b :: t) ++ 32 :: u).drop (spanN digB (b :: t)) = (b :: t).drop (spanN digB (b :: t)) ++ 32 :: u := by
     rw [List.drop_append, Nat.sub_eq_zero_of_le hle, List.drop_zero]
    have hmore : moreN ((b :: t).drop (spanN digB (b :: t)) ++ 32 :: u) = moreN ((b :: t).drop (spanN digB (b :: t))) := by
     unfold numS at h
     split at h
     ·simp at h
     ·split at h
      ·rename_i hz
       unfold moreN at hz ⊢
       match (b :: t).drop (spanN digB (b :: t)), hz with
       | [], hz => simp at hz
       | [x], hz => simp at hz
       | x :: y :: v, hz =>
        simp only [List.cons_append]
        rw [← List.cons_append, spanN_app (fun b v e => by cases e; rfl)]
      ·simp only [Prod.mk.injEq] at h
       have : (b :: t).drop (spanN digB (b :: t)) = [] := List.drop_eq_nil_of_le (by omega)
       rw [this]
       cases u <;> rfl
    have hh : ((b :: t) ++ 32 :: u).head? = (b :: t).head? := rfl
    unfold numS at h ⊢
    rw [hspan, hdrop, hmore, hh]
    exact h
   ·rw [if_neg h2] at h ⊢
    by_cases h3 : b = 34
    ·rw [if_pos h3] at h ⊢
     unfold quoS at h ⊢
     simp only [List.drop_succ_cons, List.drop_zero, List.length_cons] at h ⊢
     have hq := spanN_le notQ t
     split at h
     ·simp at h
     ·rename_i hne
      have hs : spanN notQ (t ++ 32 :: u) = spanN notQ t := spanN_app_lt _ (by omega)
      rw [hs, if_neg (by rw [List.length_append, List.length_cons]; omega), List.take_append_of_le_length hq]
      exact h
    ·rw [if_neg h3] at h ⊢
     unfold sigS at h ⊢
     match t, h with
     | [], h =>
      simp only [List.nil_append]
      have h0 : ¬ (([b] : List UInt8).take 2 = [60, 61] ∨ ([b] : List UInt8).take 2 = [62, 61] ∨ ([b] : List UInt8).take 2 = [46, 46]) := by simp
      have h4 : ¬ ((b :: 32 :: u).take 2 = [60, 61] ∨ (b :: 32 :: u).take 2 = [62, 61] ∨ (b :: 32 :: u).take 2 = [46, 46]) := by
       simp only [List.take_succ_cons, List.take_zero]
       rintro (h | h | h) <;> simp at h
      simp only [h0, if_false] at h
      simp only [h4, if_false]
      exact h
     | c :: t, h =>
      have ht : (b :: ((c :: t) ++ 32 :: u)).take 2 = (b :: c :: t).take 2 := rfl
      simp only [ht]
      by_cases hx : (b :: c :: t).take 2 = [60, 61] ∨ (b :: c :: t).take 2 = [62, 61] ∨ (b :: c :: t).take 2 = [46, 46]
      ·simp only [hx, if_true] at h ⊢
       exact h
      ·simp only [hx, if_false] at h ⊢
       exact h
theorem nextS_head {s : List UInt8} {k n : Nat} (h : nextS s = (k, n, 0)) : skipM false s = 0 := by
 cases s with
 | nil => rfl
 | cons b t =>
  have hn : nextS (b :: t) = if letB b = true then (0, wordS (b :: t)) else if digB b = true then (1, numS (b :: t)) else if b = 34 then (2, quoS (b :: t)) else (3, sigS (b :: t)) := rfl
  rw [hn] at h
  have hb : blankB b = false ∧ b ≠ 35 := by
   by_cases h1 : letB b = true
   ·have := of_decide_eq_true h1
    refine ⟨?_, fun e => by subst e; revert h1; decide⟩
    rw [Bool.eq_false_iff]
    intro hb
    unfold blankB at hb
    simp only [Bool.or_eq_true, beq_iff_eq] at hb
    rcases hb with (rfl | rfl) | rfl <;> revert h1 <;> decide
   ·rw [if_neg h1] at h
    by_cases h2 : digB b = true
    ·refine ⟨?_, fun e => by subst e; revert h2; decide⟩
     rw [Bool.eq_false_iff]
     intro hb
     unfold blankB at hb
     simp only [Bool.or_eq_true, beq_iff_eq] at hb
     rcases hb with (rfl | rfl) | rfl <;> revert h2 <;> decide
    ·rw [if_neg h2] at h
     by_cases h3 : b = 34
     ·subst h3; exact ⟨by decide, by decide⟩
     ·rw [if_neg h3] at h
      unfold sigS at h
      by_cases hx : (b :: t).take 2 = [60, 61] ∨ (b :: t).take 2 = [62, 61] ∨ (b :: t).take 2 = [46, 46]
      ·have hbv : b = 60 ∨ b = 62 ∨ b = 46 := by
        match t, hx with
        | [], hx => simp at hx
        | c :: t, hx =>
         simp only [List.take_succ_cons, List.take_zero, List.cons.injEq] at hx
         rcases hx with h | h | h
         ·exact .inl h.1
         ·exact .inr (.inl h.1)
         ·exact .inr (.inr h.1)
       rcases hbv with rfl | rfl | rfl <;> exact ⟨by decide, by decide⟩
      ·simp only [hx, if_false] at h
       by_cases hm : b ∈ ones
       ·refine ⟨?_, fun e => by subst e; revert hm; decide⟩
        rw [Bool.eq_false_iff]
        intro hb
        unfold blankB at hb
        simp only [Bool.or_eq_true, beq_iff_eq] at hb
        rcases hb with (rfl | rfl) | rfl <;> revert hm <;> decide
       ·simp [hm] at h
  rw [skipM, if_neg (by simp [hb.1]), if_neg hb.2]
theorem jn_next {t : T_api_Token} {l : List T_api_Token} (hk : okT t = true) : nextS (jn (t :: l)) = ((nextS t.f_Text).1, t.f_Text.length, 0) := by
 obtain ⟨k, _, h⟩ := okT_spec hk
 rw [h]
 cases l with
 | nil => rw [jn_one, h]
 | cons u l => rw [jn_cons]; exact nextS_app h
def keyT (t : T_api_Token) : Int × List UInt8 := (t.f_Kind, t.f_Text)
theorem Like_eq {a b : List T_api_Token} (h : a.map keyT = b.map keyT) (hn : a.length ≤ 1000000) : cashbookref14_Like a b = some true := by
 have hlen : a.length = b.length := by simpa using congrArg List.length h
 unfold cashbookref14_Like
 have h1 : ((a.length : Int) != (b.length : Int)) = false := by simp [hlen]
 simp only [h1, Bool.false_eq_true, if_false]
 have hat : ∀ (i : Nat) (ha : i < a.length), a[i].f_Kind = (b[i]'(by omega)).f_Kind ∧ a[i].f_Text = (b[i]'(by omega)).f_Text := by
  intro i ha
  have e : (a.map keyT)[i]? = (b.map keyT)[i]? := by rw [h]
  rw [List.getElem?_map, List.getElem?_map, List.getElem?_eq_getElem ha, List.getElem?_eq_getElem (show i < b.length by omega)] at e
  simp only [Option.map_some, Option.some.injEq, keyT, Prod.mk.injEq] at e
  exact e
 rw [loopI_any0 (n := a.length) (q := fun _ => false) (o := (Sum.inr false : Unit ⊕ Bool)) (e := Sum.inl ()) (by omega)]
 ·have : (List.range' 0 a.length).any (fun _ => false) = false := by simp
  rw [this]
  rfl
 ·intro i hi
  obtain ⟨e1, e2⟩ := hat i hi
  simp only [decide_eq_true_eq]
  rw [if_pos (by omega), rdO_at hi, rdO_at (show i < b.length by omega)]
  have h3 : (a[i].f_Kind != (b[i]'(by omega)).f_Kind) = false := by simp [e1]
  have h4 : (a[i].f_Text == (b[i]'(by omega)).f_Text) = true := by simp [e2]
  simp only [Option.bind_some, h3, gdO_some, Bool.not_false, cond_true, h4, Bool.not_true, Bool.or_self, Bool.false_eq_true, if_false]
 ·intro i hi
  simp only [decide_eq_true_eq]
  rw [if_neg (by omega)]
end Go.Av.G
end
section
set_option linter.unusedVariables false
set_option linter.unusedSimpArgs false
set_option maxRecDepth 4000
set_option maxHeartbeats 4000000
namespace Go.Av.G
open Go Go.Av Go.Proofs
def cutK (t : T_api_Token) : T_api_Token := ⟨t.f_Kind, t.f_Line, t.f_Col, t.f_Text.take 60⟩
def fewT (l : List T_api_Token) : List T_api_Token := (l.take 60).map cutK
theorem foldl_map {α β : Type} (f : α → β) : ∀ (l : List α) (s : List β), l.foldl (fun s x => s ++ [f x]) s = s ++ l.map f
 | [], s => by simp
 | x :: l, s => by rw [List.foldl_cons, foldl_map f l]; simp
theorem few_loop {l : List T_api_Token} (hl : l.length ≤ 60) :
  loopO (fun (qj3 : Int × (List T_api_Token)) => match qj3 with
  | (x4, row5) => (
   if (decide (x4 < (l.length : Int))) = true then
    (rdO l x4).bind fun x6 =>
    (slO x6.f_Text 0 (if 60 < (x6.f_Text.length : Int) then 60 else (x6.f_Text.length : Int))).bind fun x7 =>
    (apO 40 row5 [(⟨x6.f_Kind, x6.f_Line, x6.f_Col, x7⟩ : T_api_Token)]).bind fun x8 =>
    some (.inl (IntKind.wrap .i64 (x4 + 1), x8))
   else
    some (.inr row5) : Option ((Int × (List T_api_Token)) ⊕ (List T_api_Token)))) (0, ([] : List T_api_Token)) = some (l.map cutK) := by
 have hm : l.map cutK = l.foldl (fun s x => s ++ [cutK x]) [] := by rw [foldl_map]; rfl
 rw [hm, loopL_fold (l := l) (fun s x => s ++ [cutK x]) (fun s => s) (by omega)]
 ·intro i h
  have h3 := slO_cap (l[i]).f_Text 60
  rw [show ((60 : Nat) : Int) = 60 from rfl] at h3
  have hap : ∀ x, apO 40 ((l.take i).foldl (fun s x => s ++ [cutK x]) []) [x] = some ((l.take i).foldl (fun s x => s ++ [cutK x]) [] ++ [x]) := by
   intro x
   unfold apO
   rw [if_pos]
   rw [foldl_map]
   simp
   omega
  simp only [decide_eq_true_eq]
  rw [if_pos (by omega), rdO_at h]
  simp only [Option.bind_some, h3, hap]
  rfl
 ·simp only [decide_eq_true_eq]
  rw [if_neg (by omega)]
theorem few_eq (l : List T_api_Token) : cashbooklaw14_few l = some (fewT l) := by
 have h1 := slO_cap l 60
 rw [show ((60 : Nat) : Int) = 60 from rfl] at h1
 unfold cashbooklaw14_few
 simp only [h1, Option.bind_some]
 refine bind_at (few_loop (l := l.take 60) (by simp; omega)) rfl
theorem few_bound (l : List T_api_Token) : (fewT l).length ≤ 60 ∧ ∀ t ∈ fewT l, t.f_Text.length ≤ 60 := by
 unfold fewT
 refine ⟨by simp; omega, fun t ht => ?_⟩
 obtain ⟨u, _, rfl⟩ := List.mem_map.1 ht
 simp [cutK]
 omega
theorem sumT_le {l : List T_api_Token} {b : Nat} (h : ∀ t ∈ l, t.f_Text.length ≤ b) : sumT l ≤ l.length * b := by
 induction l with
 | nil => simp [sumT]
 | cons t l ih =>
  have h1 := h t (by simp)
  have h2 := ih (fun u hu => h u (by simp [hu]))
  simp only [sumT, List.map_cons, List.sum_cons, List.length_cons] at h2 ⊢
  rw [Nat.succ_mul]
  omega
theorem jn_few {l : List T_api_Token} (hL : l.length ≤ 60) (hT : ∀ t ∈ l, t.f_Text.length ≤ 60) : (jn l).length ≤ 3660 := by
 have h1 := jn_len l
 have h2 := sumT_le hT
 omega
end Go.Av.G
end
section
set_option linter.unusedVariables false
set_option linter.unusedSimpArgs false
set_option maxRecDepth 4000
set_option maxHeartbeats 4000000
namespace Go.Av.G
open Go Go.Av Go.Proofs
def Spells : List T_api_Token → List UInt8 → Prop
 | [], s => s = []
 | t :: l, s => nextS s = ((nextS t.f_Text).1, t.f_Text.length, 0) ∧ s.take t.f_Text.length = t.f_Text ∧ Spells l ((s.drop t.f_Text.length).drop (skipM false (s.drop t.f_Text.length)))
theorem Spells.len : ∀ {l : List T_api_Token} {s : List UInt8}, Spells l s → l.length ≤ s.length
 | [], s, _ => by simp
 | t :: l, s, h => by
  obtain ⟨h1, h2, h3⟩ := h
  obtain ⟨n1, n2⟩ := nextS_len h1
  have := h3.len
  rw [List.length_drop, List.length_drop] at this
  rw [List.length_cons]
  omega
theorem Spells.skip {l : List T_api_Token} {s : List UInt8} (h : Spells l s) : skipM false s = 0 := by
 cases l with
 | nil => have : s = [] := h; subst this; rfl
 | cons t l => exact nextS_head h.1
theorem Spells.lex : ∀ {l : List T_api_Token} {s : List UInt8}, Spells l s → (∀ t ∈ l, okT t = true) → ∀ {T : List UInt8} {f at_ k : Nat}, T.drop at_ = s → l.length < f → k + l.length ≤ 1500 → ∃ M, lexL f s at_ k = .inl M ∧ (M.map (tokS T)).map keyT = l.map keyT ∧ M.length = l.length
 | [], s, h, _, T, f, at_, k, _, hf, _ => by
  have : s = [] := h
  subst this
  refine ⟨[], ?_, rfl, rfl⟩
  cases f with
  | zero => simp at hf
  | succ f => rw [lexL, if_pos rfl]
 | t :: l, s, h, hk, T, f, at_, k, hT, hf, hk2 => by
  obtain ⟨h1, h2, h3⟩ := h
  obtain ⟨n1, n2⟩ := nextS_len h1
  have hne : s ≠ [] := fun e => by rw [e, List.length_nil] at n2; omega
  simp only [List.length_cons] at hf hk2
  cases f with
  | zero => omega
  | succ f =>
   obtain ⟨M, e1, e2, e3⟩ := h3.lex (fun u hu => hk u (by simp [hu])) (T := T) (f := f) (at_ := at_ + t.f_Text.length + skipM false (s.drop t.f_Text.length)) (k := k + 1) (by rw [← hT, List.drop_drop, List.drop_drop]) (by omega) (by omega)
   refine ⟨(at_, (nextS t.f_Text).1, t.f_Text.length) :: M, ?_, ?_, by simp [e3]⟩
   ·rw [lexL, if_neg hne, h1]
    simp only [ne_eq, not_true_eq_false, if_false, if_neg (show ¬ k = 1500 by omega), e1]
   ·obtain ⟨kk, hkk, hn⟩ := okT_spec (hk t (by simp))
    simp only [List.map_cons, e2, List.cons.injEq, and_true]
    unfold keyT tokS
    rw [hT, h2, hn, hkk]
theorem Spells.joined : ∀ {l : List T_api_Token}, (∀ t ∈ l, okT t = true) → Spells l (jn l)
 | [], _ => rfl
 | t :: l, hk => by
  have ih := Spells.joined (l := l) (fun u hu => hk u (by simp [hu]))
  refine ⟨jn_next (hk t (by simp)), ?_, ?_⟩
  ·cases l with
   | nil => rw [jn_one, List.take_length]
   | cons u l => rw [jn_cons, List.take_left]
  ·cases l with
   | nil => rw [jn_one, List.drop_length]; rfl
   | cons u l =>
    rw [jn_cons, List.drop_left, skipM, if_pos (by decide), ih.skip]
    exact ih
theorem Spells.gap {C : List T_api_Token} {W W' : List UInt8} (hW : W = 32 :: W') (hC : Spells C (W.drop (skipM false W))) : ∀ {A : List T_api_Token}, A ≠ [] → (∀ t ∈ A, okT t = true) → Spells (A ++ C) (jn A ++ W)
 | [], h, _ => absurd rfl h
 | [t], _, hk => by
  obtain ⟨k, _, hn⟩ := okT_spec (hk t (by simp))
  refine ⟨?_, ?_, ?_⟩
  ·rw [jn_one, hn, hW]; exact nextS_app hn
  ·rw [jn_one, List.take_left]
  ·rw [jn_one, List.drop_left]; exact hC
 | t :: u :: A, _, hk => by
  obtain ⟨k, _, hn⟩ := okT_spec (hk t (by simp))
  have ih := Spells.gap hW hC (A := u :: A) (by simp) (fun v hv => hk v (by simp at hv ⊢; exact .inr hv))
  have hj : jn (t :: u :: A) ++ W = t.f_Text ++ 32 :: (jn (u :: A) ++ W) := by rw [jn_cons]; simp
  refine ⟨?_, ?_, ?_⟩
  ·rw [hj, hn]; exact nextS_app hn
  ·rw [hj, List.take_left]
  ·rw [hj, List.drop_left, skipM, if_pos (by decide), ih.skip]
   exact ih
theorem skipM_blanks : ∀ {B : List UInt8}, (∀ b ∈ B, blankB b = true) → ∀ X, skipM false (B ++ X) = B.length + skipM false X
 | [], _, X => by simp
 | b :: B, h, X => by
  rw [List.cons_append, skipM, if_pos (h b (by simp)), skipM_blanks (fun c hc => h c (by simp [hc])) X, List.length_cons]
  omega
theorem skipM_line : ∀ {R : List UInt8}, 10 ∉ R → ∀ X, skipM true (R ++ 10 :: X) = R.length + 1 + skipM false X
 | [], _, X => by simp [skipM]
 | b :: R, h, X => by
  have hb : b ≠ 10 := fun e => h (by simp [e])
  rw [List.cons_append, skipM, if_neg hb, skipM_line (fun hc => h (by simp [hc])) X, List.length_cons]
  omega
theorem gap_skip {B R X : List UInt8} (hB : ∀ b ∈ B, blankB b = true) (hR : 10 ∉ R) (hX : skipM false X = 0) : skipM false (B ++ 35 :: (R ++ 10 :: X)) = B.length + R.length + 2 ∧ (B ++ 35 :: (R ++ 10 :: X)).drop (skipM false (B ++ 35 :: (R ++ 10 :: X))) = X := by
 have h35 : skipM false (35 :: (R ++ 10 :: X)) = 1 + skipM true (R ++ 10 :: X) := by
  rw [skipM, if_neg (by decide), if_pos rfl]
 have e : skipM false (B ++ 35 :: (R ++ 10 :: X)) = B.length + R.length + 2 := by
  rw [skipM_blanks hB, h35, skipM_line hR, hX]
  omega
 refine ⟨e, ?_⟩
 rw [e, show B ++ 35 :: (R ++ 10 :: X) = (B ++ 35 :: (R ++ [10])) ++ X by simp]
 have hl : (B ++ 35 :: (R ++ [10])).length = B.length + R.length + 2 := by simp; omega
 rw [← hl, List.drop_left]
theorem allS_gap {A C : List T_api_Token} {W' B R : List UInt8} (hk : ∀ t ∈ A ++ C, okT t = true) (hB : ∀ b ∈ B, blankB b = true) (hB0 : B = 32 :: W') (hR : 10 ∉ R) (hl : (A ++ C).length ≤ 1500) :
  ∃ M, allS (jn A ++ (B ++ 35 :: (R ++ 10 :: jn C))) = .inl M ∧ (M.map (tokS (jn A ++ (B ++ 35 :: (R ++ 10 :: jn C))))).map keyT = (A ++ C).map keyT ∧ M.length = (A ++ C).length := by
 have hC := Spells.joined (l := C) (fun t ht => hk t (by simp [ht]))
 obtain ⟨g1, g2⟩ := gap_skip hB hR hC.skip
 have hgap : Spells C ((B ++ 35 :: (R ++ 10 :: jn C)).drop (skipM false (B ++ 35 :: (R ++ 10 :: jn C)))) := by rw [g2]; exact hC
 unfold allS
 by_cases hA : A = []
 ·subst hA
  rw [show jn [] ++ (B ++ 35 :: (R ++ 10 :: jn C)) = B ++ 35 :: (R ++ 10 :: jn C) from rfl, List.nil_append]
  exact hgap.lex (fun t ht => hk t (by simp [ht])) rfl (by
   have := hgap.len
   rw [List.length_drop] at this
   omega) (by simpa using hl)
 ·have hs := Spells.gap (W' := W' ++ 35 :: (R ++ 10 :: jn C)) (by rw [hB0]; rfl) hgap hA (fun t ht => hk t (by simp [ht]))
  rw [hs.skip, List.drop_zero]
  exact hs.lex hk rfl (by have := hs.len; omega) (by omega)
end Go.Av.G
end
section
set_option linter.unusedVariables false
set_option linter.unusedSimpArgs false
set_option maxRecDepth 4000
set_option maxHeartbeats 4000000
namespace Go.Av.G
open Go Go.Av Go.Proofs
theorem blanks_loop {l : List Int} (hl : l.length ≤ 10) (hw : ∀ x ∈ l, 0 ≤ x) : ∀ (n i : Nat), l.length - i = n → i ≤ l.length → ∀ acc : List UInt8, acc.length ≤ 1 + i →
  ∃ G : List UInt8, (∀ b ∈ G, blankB b = true) ∧ acc.length + G.length ≤ 11 ∧ loopO (fun (qj16 : (List UInt8) × Int) => match qj16 with
   | (between17, x18) => (
    if (decide (x18 < (l.length : Int))) = true then
     (rdO l x18).bind fun x19 =>
     (byO [32, 9, 10] (Int.tmod x19 3)).bind fun x20 =>
     (catO between17 (List.map (fun n => UInt8.ofNat (Int.toNat n)) [x20])).bind fun x21 =>
     some (.inl (x21, IntKind.wrap .i64 (x18 + 1)))
    else
     some (.inr between17) : Option (((List UInt8) × Int) ⊕ (List UInt8)))) (acc, (i : Int)) = some (acc ++ G) := by
 intro n
 induction n with
 | zero =>
  intro i h1 h2 acc ha
  have : i = l.length := by omega
  subst this
  refine ⟨[], by simp, by simp; omega, ?_⟩
  rw [loopO_out (o := acc)]
  ·simp
  ·have hd : decide ((l.length : Int) < (l.length : Int)) = false := decide_eq_false (by omega)
   simp only [hd, Bool.false_eq_true, if_false]
 | succ n ih =>
  intro i h1 h2 acc ha
  have hi : i < l.length := by omega
  have hd : decide ((i : Int) < (l.length : Int)) = true := decide_eq_true (by omega)
  have hwr : IntKind.wrap .i64 ((i : Int) + 1) = ((i + 1 : Nat) : Int) := by rw [wrap64 (by omega) (by omega)]; rfl
  have h0 := hw l[i] (List.getElem_mem hi)
  obtain ⟨c, hc, hb⟩ : ∃ c : UInt8, byO [32, 9, 10] (Int.tmod l[i] 3) = some ((c.toNat : Nat) : Int) ∧ blankB c = true := by
   have e1 := Int.tmod_nonneg 3 h0
   have e2 := Int.tmod_lt_of_pos l[i] (show (0 : Int) < 3 by omega)
   generalize Int.tmod l[i] 3 = m at e1 e2
   have : m = 0 ∨ m = 1 ∨ m = 2 := by omega
   rcases this with rfl | rfl | rfl
   ·exact ⟨32, rfl, rfl⟩
   ·exact ⟨9, rfl, rfl⟩
   ·exact ⟨10, rfl, rfl⟩
  have hcat : catO acc [c] = some (acc ++ [c]) := by
   unfold catO
   rw [if_pos (by simp only [List.length_singleton]; omega)]
  have hm : List.map (fun n => UInt8.ofNat (Int.toNat n)) [((c.toNat : Nat) : Int)] = [c] := by simp
  obtain ⟨G, g1, g2, g3⟩ := ih (i + 1) (by omega) (by omega) (acc ++ [c]) (by simp; omega)
  refine ⟨c :: G, ?_, ?_, ?_⟩
  ·intro b hbm
   rcases List.mem_cons.1 hbm with rfl | hbm
   ·exact hb
   ·exact g1 b hbm
  ·simp at g2 ⊢; omega
  ·rw [loopO_on (s' := (acc ++ [c], ((i + 1 : Nat) : Int))), g3]
   ·simp
   ·simp only [hd, if_true, rdO_at hi, Option.bind_some, hc, hm, hcat, hwr]
theorem line_loop {s : List UInt8} (hl : s.length ≤ 30) : ∀ (n i : Nat), s.length - i = n → i ≤ s.length → ∀ acc : List UInt8, acc.length ≤ i →
  ∃ G : List UInt8, 10 ∉ G ∧ acc.length + G.length ≤ 30 ∧ loopO (fun (qj23 : (List UInt8) × Int) => match qj23 with
   | (line24, x25) => (
    if (decide (x25 < (s.length : Int))) = true then
     (byO s x25).bind fun x26 =>
     ((if (x26 != 10) = true then
       (slO s x25 (IntKind.wrap .i64 (x25 + 1))).bind fun x28 =>
       (catO line24 x28).bind fun x29 =>
       some x29
     else
      some line24) : Option (List UInt8)).bind fun j27 =>
     some (.inl (j27, IntKind.wrap .i64 (x25 + 1)))
    else
     some (.inr line24) : Option (((List UInt8) × Int) ⊕ (List UInt8)))) (acc, (i : Int)) = some (acc ++ G) := by
 intro n
 induction n with
 | zero =>
  intro i h1 h2 acc ha
  have : i = s.length := by omega
  subst this
  refine ⟨[], by simp, by simp; omega, ?_⟩
  rw [loopO_out (o := acc)]
  ·simp
  ·have hd : decide ((s.length : Int) < (s.length : Int)) = false := decide_eq_false (by omega)
   simp only [hd, Bool.false_eq_true, if_false]
 | succ n ih =>
  intro i h1 h2 acc ha
  have hi : i < s.length := by omega
  have hd : decide ((i : Int) < (s.length : Int)) = true := decide_eq_true (by omega)
  have hwr : IntKind.wrap .i64 ((i : Int) + 1) = ((i + 1 : Nat) : Int) := by rw [wrap64 (by omega) (by omega)]; rfl
  by_cases hb : s[i].toNat = 10
  ·have hne : (((s[i].toNat : Nat) : Int) != 10) = false := by simp; omega
   obtain ⟨G, g1, g2, g3⟩ := ih (i + 1) (by omega) (by omega) acc (by omega)
   refine ⟨G, g1, g2, ?_⟩
   rw [loopO_on (s' := (acc, ((i + 1 : Nat) : Int))), g3]
   simp only [hd, if_true, byO_at hi, Option.bind_some, hne, Bool.false_eq_true, if_false, hwr]
  ·have hne : (((s[i].toNat : Nat) : Int) != 10) = true := by simp; omega
   have hsl := slO_mid (l := s) (a := i) (b := i + 1) (by omega) (by omega)
   have hone : (s.take (i + 1)).drop i = [s[i]] := by
    rw [← List.take_append_getElem hi, List.drop_append, List.length_take, Nat.min_eq_left h2, Nat.sub_self]
    rw [List.drop_eq_nil_of_le (by rw [List.length_take]; omega)]
    rfl
   rw [hone] at hsl
   have hcat : catO acc [s[i]] = some (acc ++ [s[i]]) := by
    unfold catO
    rw [if_pos (by simp only [List.length_singleton]; omega)]
   obtain ⟨G, g1, g2, g3⟩ := ih (i + 1) (by omega) (by omega) (acc ++ [s[i]]) (by simp; omega)
   refine ⟨s[i] :: G, ?_, ?_, ?_⟩
   ·intro hm
    rcases List.mem_cons.1 hm with e | hm
    ·exact hb (by rw [← e]; rfl)
    ·exact g1 hm
   ·simp at g2 ⊢; omega
   ·rw [loopO_on (s' := (acc ++ [s[i]], ((i + 1 : Nat) : Int))), g3]
    ·simp
    ·simp only [hd, if_true, byO_at hi, Option.bind_some, hne, hwr, hsl, hcat]
theorem cat_ok {a b : List UInt8} (h : a.length + b.length ≤ 1000000) : catO a b = some (a ++ b) := by
 unfold catO
 rw [if_pos (by omega)]
theorem tmod_abs (a b : Int) (hb : 0 < b) : -b < a.tmod b ∧ a.tmod b < b := by
 have h : (a.tmod b).natAbs = a.natAbs % b.natAbs := Int.natAbs_tmod a b
 have := Nat.mod_lt a.natAbs (show 0 < b.natAbs by omega)
 omega
theorem lexBlanks_law (l : List T_api_Token) (k : Int) (bs : List Int) (rem : List UInt8) (h1 : l.length ≤ maxLen ∧ ∀ x ∈ l, T_api_Token.wf x) (h2 : inR .i64 k) (h3 : bs.length ≤ maxLen ∧ ∀ x ∈ bs, inR .u8 x) (h4 : rem.length ≤ maxLen) :
  cashbooklaw14_LexBlanks l k bs rem = some true := by
 have hcap := slO_cap rem 30
 rw [show ((30 : Nat) : Int) = 30 from rfl] at hcap
 have hcap2 := slO_cap bs 10
 rw [show ((10 : Nat) : Int) = 10 from rfl] at hcap2
 unfold cashbooklaw14_LexBlanks
 rw [few_eq, hcap]
 simp only [Option.bind_some]
 obtain ⟨hL, hT⟩ := few_bound l
 generalize fewT l = L at hL hT
 have hj := jn_few hL hT
 rw [Join_eq (by omega) (fun t ht => by have := hT t ht; omega) (by omega)]
 cases hall : L.all okT with
 | false =>
  simp only [Bool.false_eq_true, if_false, Option.bind_some, alive]
  rfl
 | true =>
  have hk : ∀ t ∈ L, okT t = true := List.all_eq_true.1 hall
  simp only [if_true, if_neg (show ¬ 1500 < L.length by omega), if_neg (show ¬ 8000 < (jn L).length by omega), Option.bind_some, bne_self_eq_false, Bool.false_eq_true, if_false]
  have hn : IntKind.wrap .i64 ((L.length : Int) + 1) = (L.length : Int) + 1 := wrap64 (by omega) (by omega)
  have m1 := tmod_abs k ((L.length : Int) + 1) (by omega)
  have hx9 : remO .i64 k ((L.length : Int) + 1) = some (Int.tmod k ((L.length : Int) + 1)) := by
   unfold remO
   rw [if_neg (by omega)]
  generalize Int.tmod k ((L.length : Int) + 1) = x9 at m1 hx9
  have hw1 : IntKind.wrap .i64 (x9 + (L.length : Int)) = x9 + (L.length : Int) := wrap64 (by omega) (by omega)
  have hw2 : IntKind.wrap .i64 (x9 + (L.length : Int) + 1) = x9 + (L.length : Int) + 1 := wrap64 (by omega) (by omega)
  have m2 := tmod_abs (x9 + (L.length : Int) + 1) ((L.length : Int) + 1) (by omega)
  have m3 := Int.tmod_nonneg ((L.length : Int) + 1) (show 0 ≤ x9 + (L.length : Int) + 1 by omega)
  have hx10 : remO .i64 (x9 + (L.length : Int) + 1) ((L.length : Int) + 1) = some (Int.tmod (x9 + (L.length : Int) + 1) ((L.length : Int) + 1)) := by
   unfold remO
   rw [if_neg (by omega)]
  generalize Int.tmod (x9 + (L.length : Int) + 1) ((L.length : Int) + 1) = x10 at m2 m3 hx10
  obtain ⟨c, rfl⟩ := Int.eq_ofNat_of_zero_le m3
  have hc : c ≤ L.length := by omega
  simp only [hn, hx9, Option.bind_some, hw1, hw2, hx10, slO_front hc, slO_drop hc]
  have hsplit : L.take c ++ L.drop c = L := List.take_append_drop c L
  have hkA : ∀ t ∈ L.take c, okT t = true := fun t ht => hk t (List.mem_of_mem_take ht)
  have hkC : ∀ t ∈ L.drop c, okT t = true := fun t ht => hk t (List.mem_of_mem_drop ht)
  have lA : (L.take c).length ≤ 60 := by rw [List.length_take]; omega
  have lC : (L.drop c).length ≤ 60 := by rw [List.length_drop]; omega
  have jA := jn_few lA (fun t ht => hT t (List.mem_of_mem_take ht))
  have jC := jn_few lC (fun t ht => hT t (List.mem_of_mem_drop ht))
  rw [Join_eq (by omega) (fun t ht => by have := hT t (List.mem_of_mem_take ht); omega) (by omega), Join_eq (by omega) (fun t ht => by have := hT t (List.mem_of_mem_drop ht); omega) (by omega)]
  have aA : (L.take c).all okT = true := List.all_eq_true.2 hkA
  have aC : (L.drop c).all okT = true := List.all_eq_true.2 hkC
  generalize L.take c = A at hsplit hkA lA jA aA
  generalize L.drop c = C at hsplit hkC lC jC aC
  subst hsplit
  simp only [aA, aC, if_true, if_neg (show ¬ 1500 < A.length by omega), if_neg (show ¬ 8000 < (jn A).length by omega), if_neg (show ¬ 1500 < C.length by omega), if_neg (show ¬ 8000 < (jn C).length by omega), Option.bind_some, hcap2]
  obtain ⟨G, g1, g2, g3⟩ := blanks_loop (l := bs.take 10) (by rw [List.length_take]; omega) (fun x hx => (h3.2 x (List.mem_of_mem_take hx)).1) _ 0 rfl (Nat.zero_le _) [32] (by simp)
  refine bind_at g3 ?_
  obtain ⟨R, r1, r2, r3⟩ := line_loop (s := rem.take 30) (by rw [List.length_take]; omega) _ 0 rfl (Nat.zero_le _) [] (by simp)
  refine bind_at r3 ?_
  rw [List.nil_append]
  simp only [List.length_singleton, List.length_nil, Nat.zero_add] at g2 r2
  rw [cat_ok (by simp only [List.length_append, List.length_singleton]; omega)]
  simp only [Option.bind_some]
  rw [cat_ok (by simp only [List.length_append, List.length_singleton]; omega)]
  simp only [Option.bind_some]
  rw [cat_ok (by simp only [List.length_append, List.length_singleton]; omega)]
  simp only [Option.bind_some]
  rw [cat_ok (by simp only [List.length_append, List.length_singleton]; omega)]
  simp only [Option.bind_some]
  rw [cat_ok (by simp only [List.length_append, List.length_singleton]; omega)]
  simp only [Option.bind_some]
  have hB : ∀ b ∈ [32] ++ G, blankB b = true := by
   intro b hb
   rcases List.mem_append.1 hb with hb | hb
   ·rw [List.mem_singleton.1 hb]; rfl
   ·exact g1 b hb
  obtain ⟨M, e1, e2, e3⟩ := allS_gap (A := A) (C := C) (B := [32] ++ G) (R := R) (W' := G) hk hB rfl r1 (by omega)
  have hS : jn A ++ ([32] ++ G) ++ [35] ++ R ++ [10] ++ jn C = jn A ++ ([32] ++ G ++ 35 :: (R ++ 10 :: jn C)) := by simp
  rw [hS, all_eq (by simp only [List.length_append, List.length_cons, List.length_nil]; omega), e1]
  have hlk := Like_eq (a := A ++ C) (b := M.map (tokS (jn A ++ ([32] ++ G ++ 35 :: (R ++ 10 :: jn C))))) e2.symm (by omega)
  simp only [Option.bind_some, alive, beq_self_eq_true, Bool.and_self, gdO, hlk]
end Go.Av.G
end
