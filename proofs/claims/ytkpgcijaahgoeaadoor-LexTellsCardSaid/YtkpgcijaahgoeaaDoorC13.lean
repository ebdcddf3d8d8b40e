import Derived.Laws.RangeAny
import Derived.Test.YtkpgcijaahgoeaaDoorC12
section
set_option linter.unusedVariables false
set_option linter.unusedSimpArgs false
namespace Go.Av
open Go
theorem wrap64 {x : Int} (h1 : -9223372036854775808 ≤ x) (h2 : x < 9223372036854775808) : IntKind.wrap .i64 x = x := by
 have hb : IntKind.bits .i64 = 64 := rfl
 have hs : IntKind.signed .i64 = true := rfl
 unfold IntKind.wrap
 simp only [hb, hs, Bool.true_and, decide_eq_true_eq]
 split <;> omega
theorem rdO_at {α : Type} {l : List α} {i : Nat} (h : i < l.length) : rdO l (i : Int) = some l[i] := by
 unfold rdO
 rw [if_pos (by omega)]
 simp [List.getElem?_eq_getElem h]
theorem byO_at {s : List UInt8} {i : Nat} (h : i < s.length) : byO s (i : Int) = some ((s[i].toNat : Nat) : Int) := by
 unfold byO
 rw [if_pos (by omega)]
 simp [List.getElem?_eq_getElem h]
theorem loopI {O : Type} {f : Int → Option (Int ⊕ O)} {n : Nat} {q : Nat → Bool} {o : Nat → O} {e : O} (hn : n < 4611686018427387904) (hin : ∀ i : Nat, i < n → f i = some (if q i = true then .inr (o i) else .inl (IntKind.wrap .i64 ((i : Int) + 1))))
  (hout : ∀ i : Nat, n ≤ i → f i = some (.inr e)) (s : Nat) : loopO f s = some (match (List.range' s (n - s)).find? q with | some i => o i | none => e) := by
 generalize hm : n - s = m
 induction m generalizing s with
 | zero => rw [loopO_out (hout s (by omega))]; rfl
 | succ m ih =>
  have := hin s (by omega)
  rw [List.range'_succ, List.find?_cons]
  cases hq : q s with
  | true =>
   rw [hq, if_pos rfl] at this
   rw [loopO_out this]
  | false =>
   rw [hq, if_neg (by simp), wrap64 (by omega) (by omega)] at this
   rw [loopO_on this]
   exact ih (s + 1) (by omega)
theorem find_any {O : Type} {l : List Nat} {q : Nat → Bool} {o e : O} : (match l.find? q with | some i => o | none => e) = if l.any q = true then o else e := by
 induction l with
 | nil => rfl
 | cons x l ih =>
  rw [List.find?_cons, List.any_cons]
  cases q x with
  | true => rfl
  | false => simpa using ih
theorem loopI_any {O : Type} {f : Int → Option (Int ⊕ O)} {n : Nat} {q : Nat → Bool} {o e : O} (hn : n < 4611686018427387904) (hin : ∀ i : Nat, i < n → f i = some (if q i = true then .inr o else .inl (IntKind.wrap .i64 ((i : Int) + 1))))
  (hout : ∀ i : Nat, n ≤ i → f i = some (.inr e)) (s : Nat) : loopO f s = some (if (List.range' s (n - s)).any q = true then o else e) := by
 rw [loopI hn hin hout s, find_any]
theorem any_range {α : Type} (l : List α) (p : α → Bool) : (List.range' 0 l.length).any (fun i => (l[i]?).any p) = l.any p := by
 rw [Bool.eq_iff_iff, List.any_eq_true, List.any_eq_true]
 constructor
 ·rintro ⟨i, hi, h⟩
  have hl : i < l.length := by simpa using hi
  rw [List.getElem?_eq_getElem hl] at h
  exact ⟨l[i], List.getElem_mem hl, h⟩
 ·rintro ⟨x, hx, h⟩
  obtain ⟨i, hi, rfl⟩ := List.getElem_of_mem hx
  exact ⟨i, by simpa using hi, by simpa [List.getElem?_eq_getElem hi] using h⟩
theorem loopL_any {α O : Type} {f : Int → Option (Int ⊕ O)} {l : List α} (p : α → Bool) {o e : O} (hn : l.length < 4611686018427387904) (hin : ∀ (i : Nat) (h : i < l.length), f i = some (if p l[i] = true then .inr o else .inl (IntKind.wrap .i64 ((i : Int) + 1))))
  (hout : ∀ i : Nat, l.length ≤ i → f i = some (.inr e)) : loopO f 0 = some (if l.any p = true then o else e) := by
 have := loopI_any (q := fun i => (l[i]?).any p) hn (fun i hi => by rw [hin i hi, List.getElem?_eq_getElem hi]; rfl) hout 0
 rw [← any_range]
 exact this
def Rise {α : Type} (key : α → Int) (l : List α) : Prop := ∀ i (h : i + 1 < l.length), key l[i] < key l[i + 1]
theorem Rise.lt {α : Type} {key : α → Int} {l : List α} (h : Rise key l) : ∀ {j i : Nat} (hj : j < l.length) (hij : i < j), key (l[i]'(by omega)) < key l[j] := by
 intro j
 induction j with
 | zero => intro i _ hij; omega
 | succ j ih =>
  intro i hj hij
  have h1 := h j hj
  by_cases he : i = j
  ·subst he; exact h1
  ·have := ih (i := i) (by omega) (by omega)
   omega
theorem Rise.inj {α : Type} {key : α → Int} {l : List α} (h : Rise key l) {i j : Nat} (hi : i < l.length) (hj : j < l.length) (he : key l[i] = key l[j]) : i = j := by
 by_cases h1 : i < j
 ·have := h.lt hj h1; omega
 ·by_cases h2 : j < i
  ·have := h.lt hi h2; omega
  ·omega
theorem loopI_any0 {O : Type} {f : Int → Option (Int ⊕ O)} {n : Nat} {q : Nat → Bool} {o e : O} (hn : n < 4611686018427387904) (hin : ∀ i : Nat, i < n → f i = some (if q i = true then .inr o else .inl (IntKind.wrap .i64 ((i : Int) + 1))))
  (hout : ∀ i : Nat, n ≤ i → f i = some (.inr e)) : loopO f 0 = some (if (List.range' 0 n).any q = true then o else e) := loopI_any hn hin hout 0
end Go.Av
end
section
set_option linter.unusedVariables false
set_option linter.unusedSimpArgs false
set_option maxRecDepth 4000
set_option maxHeartbeats 4000000
namespace Go.Av.G
open Go Go.Av Go.Proofs
theorem bind_at {α β : Type} {a : Option α} {x : α} {f : α → Option β} {o : Option β} (h : a = some x) (h2 : f x = o) : a.bind f = o := by subst h; exact h2
theorem gdO_some {α : Type} (g : Bool) (a d : α) : gdO g (some a) d = some (bif g then a else d) := by cases g <;> rfl
def spanN (q : UInt8 → Bool) (s : List UInt8) : Nat := (s.takeWhile q).length
theorem spanN_nil (q : UInt8 → Bool) : spanN q [] = 0 := rfl
theorem spanN_cons (q : UInt8 → Bool) (b : UInt8) (t : List UInt8) : spanN q (b :: t) = if q b = true then spanN q t + 1 else 0 := by
 unfold spanN
 rw [List.takeWhile_cons]
 split <;> simp
theorem spanN_le (q : UInt8 → Bool) : ∀ s : List UInt8, spanN q s ≤ s.length
 | [] => by simp [spanN_nil]
 | b :: t => by
  have := spanN_le q t
  rw [spanN_cons, List.length_cons]
  split <;> omega
theorem slO_drop {α : Type} {l : List α} {n : Nat} (h : n ≤ l.length) : slO l (n : Int) (l.length : Int) = some (l.drop n) := by
 unfold slO
 rw [if_pos ⟨by omega, by omega, by omega⟩]
 simp
theorem slO_front {α : Type} {l : List α} {n : Nat} (h : n ≤ l.length) : slO l 0 (n : Int) = some (l.take n) := by
 unfold slO
 rw [if_pos ⟨by omega, by omega, by omega⟩]
 simp
theorem slO_mid {α : Type} {l : List α} {a b : Nat} (h1 : a ≤ b) (h2 : b ≤ l.length) : slO l (a : Int) (b : Int) = some ((l.take b).drop a) := by
 unfold slO
 rw [if_pos ⟨by omega, by omega, by omega⟩]
 simp
theorem idx_span {p : Nat → Bool} {q : UInt8 → Bool} (h1 : ∀ x, 128 ≤ x → p x = true) (h2 : ∀ b : UInt8, b.toNat < 128 → p b.toNat = !q b) (h3 : ∀ b : UInt8, 128 ≤ b.toNat → q b = false) (s : List UInt8) : Lib.idxFunc p true ⟨s.toArray⟩ = if spanN q s = s.length then -1 else (spanN q s : Int) := by
 have hsz : (ByteArray.mk s.toArray).size = s.length := by simp [ByteArray.size]
 have key : ∀ f pos, s.length - pos ≤ f → pos ≤ s.length → Lib.idxFuncFrom p true ⟨s.toArray⟩ f pos = if spanN q (s.drop pos) = s.length - pos then -1 else ((pos + spanN q (s.drop pos) : Nat) : Int) := by
  intro f
  induction f with
  | zero =>
   intro pos h hp
   have : pos = s.length := by omega
   subst this
   simp [Lib.idxFuncFrom, spanN_nil]
  | succ f ih =>
   intro pos h hp
   simp only [Lib.idxFuncFrom]
   by_cases hpos : pos < s.length
   ·rw [if_pos (by rw [hsz]; exact hpos)]
    have hget : (ByteArray.mk s.toArray)[pos]'(by rw [hsz]; exact hpos) = s[pos] := rfl
    rw [List.drop_eq_getElem_cons hpos, spanN_cons]
    have hle := spanN_le q (s.drop (pos + 1))
    rw [List.length_drop] at hle
    by_cases ha : (s[pos]).toNat < 128
    ·have hd := Go.decode_ascii (ByteArray.mk s.toArray) pos (by rw [hsz]; exact hpos) (by rw [hget]; exact ha)
     rw [hd, hget]
     simp only
     rw [h2 _ ha]
     cases hq : q s[pos] with
     | true =>
      simp only [Bool.not_true, Bool.false_eq_true, if_false, if_true]
      rw [ih (pos + 1) (by omega) (by omega)]
      by_cases he : spanN q (s.drop (pos + 1)) = s.length - (pos + 1)
      ·rw [if_pos he, if_pos (by omega)]
      ·rw [if_neg he, if_neg (by omega)]
       omega
     | false =>
      simp only [Bool.not_false, if_true, Bool.false_eq_true, if_false]
      rw [if_neg (by omega)]
      simp
    ·have hd := Go.decode_high (ByteArray.mk s.toArray) pos (by rw [hsz]; exact hpos) (by rw [hget]; omega)
     rw [if_pos (h1 _ hd.1), h3 _ (by omega)]
     simp only [Bool.false_eq_true, if_false]
     rw [if_neg (by omega)]
     simp
   ·have : pos = s.length := by omega
    subst this
    rw [if_neg (by rw [hsz]; omega)]
    simp [spanN_nil]
 unfold Lib.idxFunc
 rw [key _ 0 (by rw [hsz]; omega) (by omega)]
 simp
def letB (b : UInt8) : Bool := decide (97 ≤ b.toNat ∧ b.toNat ≤ 122)
def digB (b : UInt8) : Bool := decide (48 ≤ b.toNat ∧ b.toNat ≤ 57)
def worB (b : UInt8) : Bool := decide ((97 ≤ b.toNat ∧ b.toNat ≤ 122) ∨ (48 ≤ b.toNat ∧ b.toNat ≤ 57) ∨ b.toNat = 95)
def prB (b : UInt8) : Bool := decide (32 ≤ b.toNat ∧ b.toNat ≤ 126)
theorem isLetter_eq (n : Int) : lex_isLetter n = some (decide (97 ≤ n ∧ n ≤ 122)) := by simp [lex_isLetter]
theorem isDigit_eq (n : Int) : lex_isDigit n = some (decide (48 ≤ n ∧ n ≤ 57)) := by simp [lex_isDigit]
theorem isOfWord_eq (n : Int) : lex_isOfWord n = some (decide ((97 ≤ n ∧ n ≤ 122) ∨ (48 ≤ n ∧ n ≤ 57) ∨ n = 95)) := by
 simp only [lex_isOfWord, isLetter_eq, isDigit_eq, Option.bind_some, gdO_some, Option.some.injEq]
 by_cases h1 : 97 ≤ n ∧ n ≤ 122
 ·simp [h1]
 ·by_cases h2 : 48 ≤ n ∧ n ≤ 57
  ·simp [h1, h2]
  ·by_cases h3 : n = 95
   ·simp [h3]
   ·simp [h1, h2, h3]
theorem quoted_1_eq (n : Int) : lex_quoted_1 n = some (decide (32 ≤ n ∧ n ≤ 126)) := by simp [lex_quoted_1]
theorem wrap8 {n : Int} (h1 : 0 ≤ n) (h2 : n < 256) : IntKind.wrap .u8 n = n := by
 have hb : IntKind.bits .u8 = 8 := rfl
 have hs : IntKind.signed .u8 = false := rfl
 unfold IntKind.wrap
 simp only [hb, hs, Bool.false_and]
 simp
 omega
theorem run_of {f : Int → Option Bool} {g : Int → Bool} {q : UInt8 → Bool} (hf : ∀ n : Int, f n = some (bif decide (n > 127) then true else !g (IntKind.wrap .u8 n))) (hg : ∀ b : UInt8, g (b.toNat : Int) = q b) (hq : ∀ b : UInt8, 128 ≤ b.toNat → q b = false) (s : List UInt8) : strings_IndexFunc f s = some (if spanN q s = s.length then -1 else (spanN q s : Int)) := by
 rw [strings_IndexFunc_eq (fun x => bif decide ((x : Int) > 127) then true else !g (IntKind.wrap .u8 (x : Int))) (fun x => hf x), idx_span (q := q) ?_ ?_ hq]
 ·intro x hx
  have : decide ((x : Int) > 127) = true := decide_eq_true (by omega)
  simp only [this, cond_true]
 ·intro b hb
  have : decide ((b.toNat : Int) > 127) = false := decide_eq_false (by omega)
  simp only [this, cond_false, wrap8 (show 0 ≤ (b.toNat : Int) by omega) (show (b.toNat : Int) < 256 by omega), hg]
theorem run_eq (s : List UInt8) : lex_run s = some (spanN worB s : Int) := by
 unfold lex_run
 rw [run_of (g := fun n => decide ((97 ≤ n ∧ n ≤ 122) ∨ (48 ≤ n ∧ n ≤ 57) ∨ n = 95)) (q := worB)]
 ·simp only [Option.bind_some]
  by_cases h : spanN worB s = s.length
  ·rw [if_pos h]; simp [h]
  ·rw [if_neg h]; simp; omega
 ·intro n
  simp only [lex_run_1, isOfWord_eq, Option.bind_some, gdO_some]
  cases decide (n > 127) <;> simp
 ·intro b
  unfold worB
  rw [Bool.eq_iff_iff]
  simp
  omega
 ·intro b hb
  unfold worB
  simp
  omega
theorem run2_eq (s : List UInt8) : lex_run_2 s = some (spanN digB s : Int) := by
 unfold lex_run_2
 rw [run_of (g := fun n => decide (48 ≤ n ∧ n ≤ 57)) (q := digB)]
 ·simp only [Option.bind_some]
  by_cases h : spanN digB s = s.length
  ·rw [if_pos h]; simp [h]
  ·rw [if_neg h]; simp; omega
 ·intro n
  simp only [lex_run_1_1, isDigit_eq, Option.bind_some, gdO_some]
  cases decide (n > 127) <;> simp
 ·intro b
  unfold digB
  rw [Bool.eq_iff_iff]
  simp
  omega
 ·intro b hb
  unfold digB
  simp
  omega
theorem run3_eq (s : List UInt8) : lex_run_3 s = some (spanN prB s : Int) := by
 unfold lex_run_3
 rw [run_of (g := fun n => decide (32 ≤ n ∧ n ≤ 126)) (q := prB)]
 ·simp only [Option.bind_some]
  by_cases h : spanN prB s = s.length
  ·rw [if_pos h]; simp [h]
  ·rw [if_neg h]; simp; omega
 ·intro n
  simp only [lex_run_1_2, quoted_1_eq, Option.bind_some, gdO_some]
  cases decide (n > 127) <;> simp
 ·intro b
  unfold prB
  rw [Bool.eq_iff_iff]
  simp
  omega
 ·intro b hb
  unfold prB
  simp
  omega
end Go.Av.G
end
section
set_option linter.unusedVariables false
set_option linter.unusedSimpArgs false
set_option maxRecDepth 4000
set_option maxHeartbeats 4000000
namespace Go.Av.G
open Go Go.Av Go.Proofs
def moreN (s : List UInt8) : Nat := match s with
 | b :: c :: t => if b = 46 then spanN digB (c :: t) else 0
 | _ => 0
def wordS (s : List UInt8) : Nat × Nat := if 32 < spanN worB s then (0, 3) else (spanN worB s, 0)
def numS (s : List UInt8) : Nat × Nat :=
 if 15 < spanN digB s ∨ 9 < moreN (s.drop (spanN digB s)) ∨ 1 < spanN digB s ∧ s.head? = some 48 then (0, 3)
 else if 0 < moreN (s.drop (spanN digB s)) then (spanN digB s + 1 + moreN (s.drop (spanN digB s)), 0) else (spanN digB s, 0)
def notQ (b : UInt8) : Bool := b != 34
def quoS (s : List UInt8) : Nat × Nat :=
 if spanN notQ (s.drop 1) = (s.drop 1).length then (0, 14)
 else if 32 < spanN notQ (s.drop 1) ∨ spanN prB ((s.drop 1).take (spanN notQ (s.drop 1))) < spanN notQ (s.drop 1) then (0, 3)
 else (spanN notQ (s.drop 1) + 2, 0)
def ones : List UInt8 := [123, 125, 40, 41, 91, 93, 59, 58, 44, 37, 61, 60, 62, 43, 45, 42, 47]
def sigS (s : List UInt8) : Nat × Nat :=
 if s.take 2 = [60, 61] ∨ s.take 2 = [62, 61] ∨ s.take 2 = [46, 46] then (2, 0)
 else match s with
 | b :: _ => if b ∈ ones then (1, 0) else (0, 14)
 | [] => (0, 14)
def nextS (s : List UInt8) : Nat × Nat × Nat := match s with
 | b :: _ => if letB b = true then (0, wordS s) else if digB b = true then (1, numS s) else if b = 34 then (2, quoS s) else (3, sigS s)
 | [] => (0, 0, 14)
def prI (x : Nat × Nat) : Int × Int := ((x.1 : Int), (x.2 : Int))
theorem word_eq (s : List UInt8) : lex_word s = some (prI (wordS s)) := by
 unfold lex_word wordS prI
 rw [run_eq]
 simp only [Option.bind_some, decide_eq_true_eq]
 by_cases h : 32 < spanN worB s
 ·rw [if_pos (by omega), if_pos h]; rfl
 ·rw [if_neg (by omega), if_neg h]; rfl
theorem byO_head {b : UInt8} {t : List UInt8} : byO (b :: t) 0 = some (b.toNat : Int) := by simp [byO]
theorem toNat_eq {b : UInt8} {n : Nat} (hn : n < 256) : b.toNat = n ↔ b = UInt8.ofNat n := by
 constructor
 ·intro h
  apply UInt8.toNat_inj.1
  simp [h]
  omega
 ·rintro rfl
  simp
  omega
theorem more_eq (s : List UInt8) : ((some (decide ((s.length : Int) > 1))).bind fun c4 =>
 (gdO c4 (byO s 0) 0).bind fun x5 =>
 ((if (c4 && (x5 == 46)) = true then
   (slO s 1 (s.length : Int)).bind fun x7 =>
   (lex_run_2 x7).bind fun x8 =>
   some x8
 else
  some 0) : Option Int)) = some (moreN s : Int) := by
 match s with
 | [] => rfl
 | [b] => rfl
 | b :: c :: t =>
  have h1 : decide ((((b :: c :: t).length : Nat) : Int) > 1) = true := by simp; omega
  have h2 := slO_drop (l := b :: c :: t) (n := 1) (by simp)
  have e1 : ((1 : Nat) : Int) = 1 := rfl
  rw [e1] at h2
  simp only [Option.bind_some, h1, gdO, byO_head, Bool.true_and, h2, run2_eq, List.drop_succ_cons, List.drop_zero]
  unfold moreN
  by_cases hb : b = 46
  ·subst hb; rfl
  ·have : ((b.toNat : Int) == 46) = false := by
    have := mt (toNat_eq (b := b) (n := 46) (by omega)).1 hb
    simp
    omega
   rw [this]
   simp [hb]
theorem spanN_head {q : UInt8 → Bool} {b : UInt8} {t : List UInt8} (h : q b = true) : 1 ≤ spanN q (b :: t) := by
 rw [spanN_cons, if_pos h]; omega
theorem moreN_le (s : List UInt8) : moreN s + 1 ≤ s.length ∨ moreN s = 0 := by
 unfold moreN
 split
 ·rename_i b c t
  have := spanN_le digB (c :: t)
  split
  ·left; simpa using this
  ·right; rfl
 ·right; rfl
theorem number_eq {b : UInt8} {t : List UInt8} (hl : (b :: t).length < 4611686018427387904) : lex_number (b :: t) = some (prI (numS (b :: t))) := by
 generalize hs : b :: t = s at hl
 have hd := spanN_le digB s
 have hm := moreN_le (s.drop (spanN digB s))
 rw [List.length_drop] at hm
 have h0 : byO s 0 = some (b.toNat : Int) := by rw [← hs]; exact byO_head
 have hh : s.head? = some b := by rw [← hs]; rfl
 unfold lex_number numS prI
 rw [run2_eq]
 simp only [Option.bind_some, slO_drop hd]
 have hmore := more_eq (s.drop (spanN digB s))
 simp only [Option.bind_some] at hmore
 cases hg : gdO (decide (((s.drop (spanN digB s)).length : Int) > 1)) (byO (s.drop (spanN digB s)) 0) 0 with
 | none => rw [hg] at hmore; cases hmore
 | some x5 =>
  rw [hg] at hmore
  simp only [Option.bind_some] at hmore ⊢
  refine bind_at hmore ?_
  have h48 : ((b.toNat : Int) == 48) = decide (b = 48) := by
   rw [Bool.eq_iff_iff]
   have := toNat_eq (b := b) (n := 48) (by omega)
   simp
   constructor
   ·intro h; exact this.1 (by omega)
   ·rintro rfl; rfl
  simp only [h0, gdO_some, Option.bind_some, hh, Option.some.injEq]
  by_cases c1 : 15 < spanN digB s
  ·have : decide (((spanN digB s : Nat) : Int) > 15) = true := decide_eq_true (by omega)
   simp only [this, Bool.true_or, if_true]
   rw [if_pos (.inl c1)]
   rfl
  ·have e1 : decide (((spanN digB s : Nat) : Int) > 15) = false := decide_eq_false (by omega)
   by_cases c2 : 9 < moreN (s.drop (spanN digB s))
   ·have : decide (((moreN (s.drop (spanN digB s)) : Nat) : Int) > 9) = true := decide_eq_true (by omega)
    simp only [e1, this, Bool.false_or, Bool.true_or, if_true]
    rw [if_pos (.inr (.inl c2))]
    rfl
   ·have e2 : decide (((moreN (s.drop (spanN digB s)) : Nat) : Int) > 9) = false := decide_eq_false (by omega)
    simp only [e1, e2, Bool.or_self, Bool.not_false, Bool.true_and, Bool.false_or]
    by_cases c3 : 1 < spanN digB s ∧ b = 48
    ·have e3 : decide (((spanN digB s : Nat) : Int) > 1) = true := decide_eq_true (by omega)
     simp only [e3, cond_true, h48, decide_eq_true c3.2, Bool.and_self, if_true]
     rw [if_pos (.inr (.inr c3))]
     rfl
    ·have e3 : (decide (((spanN digB s : Nat) : Int) > 1) && ((bif decide (((spanN digB s : Nat) : Int) > 1) then (b.toNat : Int) else 0) == 48)) = false := by
      by_cases q : 1 < spanN digB s
      ·have e3 : decide (((spanN digB s : Nat) : Int) > 1) = true := decide_eq_true (by omega)
       simp only [e3, cond_true, h48, Bool.true_and]
       exact decide_eq_false (fun hb => c3 ⟨q, hb⟩)
      ·have e3 : decide (((spanN digB s : Nat) : Int) > 1) = false := decide_eq_false (by omega)
       simp only [e3, Bool.false_and]
     have hno : ¬ (15 < spanN digB s ∨ 9 < moreN (s.drop (spanN digB s)) ∨ 1 < spanN digB s ∧ b = 48) := fun h => h.elim c1 (fun h => h.elim c2 c3)
     simp only [e3, Bool.false_eq_true, if_false, if_neg hno]
     by_cases c4 : 0 < moreN (s.drop (spanN digB s))
     ·have e4 : IntKind.wrap .i64 (((spanN digB s : Nat) : Int) + 1) = ((spanN digB s + 1 : Nat) : Int) := by rw [wrap64 (by omega) (by omega)]; rfl
      have e5 : IntKind.wrap .i64 (((spanN digB s + 1 : Nat) : Int) + ((moreN (s.drop (spanN digB s)) : Nat) : Int)) = ((spanN digB s + 1 + moreN (s.drop (spanN digB s)) : Nat) : Int) := by rw [wrap64 (by omega) (by omega)]; omega
      rw [e4, e5, if_pos (decide_eq_true (show ((moreN (s.drop (spanN digB s)) : Nat) : Int) > 0 by omega)), if_pos c4]
      rfl
     ·rw [if_neg (show ¬ (decide (((moreN (s.drop (spanN digB s)) : Nat) : Int) > 0) = true) by simp; omega), if_neg c4]
      rfl
theorem indexByte_span (c : UInt8) : ∀ s : List UInt8, Lib.indexByte s c = if spanN (fun b => b != c) s = s.length then -1 else (spanN (fun b => b != c) s : Int)
 | [] => rfl
 | b :: t => by
  have hle := spanN_le (fun b => b != c) t
  unfold Lib.indexByte
  rw [indexByte_span c t, spanN_cons, List.length_cons]
  by_cases h : b = c
  ·subst h; simp
  ·have h1 : (b == c) = false := by simpa using h
   have h2 : (b != c) = true := by simpa using h
   rw [h1, if_neg (by simp)]
   simp only [h2, if_true]
   by_cases he : spanN (fun b => b != c) t = t.length
   ·rw [show (if spanN (fun b => b != c) t = t.length then (-1 : Int) else (spanN (fun b => b != c) t : Int)) = -1 from if_pos he, if_pos (show spanN (fun b => b != c) t + 1 = t.length + 1 by omega)]
    rfl
   ·rw [show (if spanN (fun b => b != c) t = t.length then (-1 : Int) else (spanN (fun b => b != c) t : Int)) = (spanN (fun b => b != c) t : Int) from if_neg he, if_neg (show ¬ spanN (fun b => b != c) t + 1 = t.length + 1 by omega)]
    have : (((spanN (fun b => b != c) t : Nat) : Int) == -1) = false := by simp
    rw [this]
    simp
theorem quoted_eq {b : UInt8} {t : List UInt8} (hl : (b :: t).length < 4611686018427387904) : lex_quoted (b :: t) = some (prI (quoS (b :: t))) := by
 have h1 := slO_drop (l := b :: t) (n := 1) (by simp)
 have e1 : ((1 : Nat) : Int) = 1 := rfl
 rw [e1] at h1
 have e2 : ((34 : Int).toNat.toUInt8) = 34 := by decide
 have hn := spanN_le notQ t
 have hidx : Lib.indexByte t 34 = if spanN notQ t = t.length then -1 else (spanN notQ t : Int) := indexByte_span 34 t
 simp only [List.length_cons] at hl
 unfold lex_quoted quoS prI
 simp only [h1, List.drop_succ_cons, List.drop_zero, Option.bind_some, strings_IndexByte, e2]
 by_cases c1 : spanN notQ t = t.length
 ·rw [if_pos c1] at hidx
  simp only [hidx, if_pos c1]
  rfl
 ·rw [if_neg c1] at hidx
  have e3 : IntKind.wrap .i64 (1 + ((spanN notQ t : Nat) : Int)) = ((spanN notQ t + 1 : Nat) : Int) := by rw [wrap64 (by omega) (by omega)]; omega
  have e4 : IntKind.wrap .i64 (((spanN notQ t : Nat) : Int) + 2) = ((spanN notQ t + 2 : Nat) : Int) := by rw [wrap64 (by omega) (by omega)]; rfl
  have h2 := slO_mid (l := b :: t) (a := 1) (b := spanN notQ t + 1) (by omega) (by simp; omega)
  rw [e1] at h2
  have e6 : decide (((spanN notQ t : Nat) : Int) < 0) = false := decide_eq_false (by omega)
  simp only [hidx, if_neg c1, e6, Bool.false_eq_true, if_false, e3, h2, List.take_succ_cons, List.drop_succ_cons, List.drop_zero, gdO_some, Option.bind_some, run3_eq, e4]
  by_cases c2 : 32 < spanN notQ t
  ·have : decide (((spanN notQ t : Nat) : Int) > 32) = true := decide_eq_true (by omega)
   simp only [this, Bool.true_or, if_true, if_pos (show 32 < spanN notQ t ∨ spanN prB (t.take (spanN notQ t)) < spanN notQ t from .inl c2)]
   rfl
  ·have e5 : decide (((spanN notQ t : Nat) : Int) > 32) = false := decide_eq_false (by omega)
   simp only [e5, Bool.not_false, cond_true, Bool.false_or]
   by_cases c3 : spanN prB (t.take (spanN notQ t)) < spanN notQ t
   ·have : decide (((spanN prB (t.take (spanN notQ t)) : Nat) : Int) < ((spanN notQ t : Nat) : Int)) = true := decide_eq_true (by omega)
    simp only [this, if_true, if_pos (show 32 < spanN notQ t ∨ spanN prB (t.take (spanN notQ t)) < spanN notQ t from .inr c3)]
    rfl
   ·have : decide (((spanN prB (t.take (spanN notQ t)) : Nat) : Int) < ((spanN notQ t : Nat) : Int)) = false := decide_eq_false (by omega)
    have hno : ¬ (32 < spanN notQ t ∨ spanN prB (t.take (spanN notQ t)) < spanN notQ t) := fun h => h.elim c2 c3
    simp only [this, Bool.false_eq_true, if_false, if_neg hno]
    rfl
end Go.Av.G
end
section
set_option linter.unusedVariables false
set_option linter.unusedSimpArgs false
set_option maxRecDepth 4000
set_option maxHeartbeats 4000000
namespace Go.Av.G
open Go Go.Av Go.Proofs
theorem contains_nil (sub : List UInt8) : Lib.contains [] sub = sub.isEmpty := by
 unfold Lib.contains Lib.index
 cases sub <;> rfl
theorem contains_cons (b : UInt8) (l sub : List UInt8) : Lib.contains (b :: l) sub = (sub.isPrefixOf (b :: l) || Lib.contains l sub) := by
 unfold Lib.contains
 have h := Lib.index_ge l sub
 rw [show Lib.index (b :: l) sub = if sub.isPrefixOf (b :: l) then 0 else if Lib.index l sub == -1 then -1 else Lib.index l sub + 1 from by rw [Lib.index]]
 cases hp : sub.isPrefixOf (b :: l) with
 | true => simp
 | false =>
  simp only [Bool.false_eq_true, if_false, Bool.false_or]
  by_cases he : Lib.index l sub = -1
  ·simp [he]
  ·have h1 : (Lib.index l sub == -1) = false := by simpa using he
   rw [h1]
   simp only [Bool.false_eq_true, if_false]
   rw [decide_eq_true (show (0 : Int) ≤ Lib.index l sub + 1 by omega), decide_eq_true (show (0 : Int) ≤ Lib.index l sub by omega)]
theorem span_ne (c : UInt8) : ∀ s : List UInt8, spanN (fun b => b != c) s = s.length ↔ c ∉ s
 | [] => by simp [spanN_nil]
 | b :: t => by
  have ih := span_ne c t
  have hle := spanN_le (fun b => b != c) t
  rw [spanN_cons, List.length_cons, List.mem_cons]
  by_cases h : b = c
  ·subst h; simp
  ·have h2 : (b != c) = true := by simpa using h
   simp only [h2, if_true]
   constructor
   ·intro he hm
    rcases hm with rfl | hm
    ·exact h rfl
    ·exact ih.1 (by omega) hm
   ·intro hm
    have := ih.2 (fun q => hm (.inr q))
    omega
theorem index_one (c : UInt8) : ∀ s : List UInt8, Lib.index s [c] = Lib.indexByte s c
 | [] => rfl
 | b :: t => by
  unfold Lib.index Lib.indexByte
  rw [index_one c t]
  have : ([c] : List UInt8).isPrefixOf (b :: t) = (b == c) := by
   simp [List.isPrefixOf]
   rw [Bool.eq_iff_iff]
   simp
   exact eq_comm
  rw [this]
theorem sign_eq {b : UInt8} {t : List UInt8} (hl : (b :: t).length < 4294967281) : lex_sign (b :: t) = some (prI (sigS (b :: t))) := by
 have e8 : (b.toNat : Int).toNat.toUInt8 = b := by simp
 have hone : decide ((Lib.indexByte [123, 125, 40, 41, 91, 93, 59, 58, 44, 37, 61, 60, 62, 43, 45, 42, 47] b) ≥ 0) = decide (b ∈ ones) := by
  rw [indexByte_span, Bool.eq_iff_iff, decide_eq_true_eq, decide_eq_true_eq]
  have h := span_ne b ones
  change (if spanN (fun c => c != b) ones = ones.length then (-1 : Int) else (spanN (fun c => c != b) ones : Int)) ≥ 0 ↔ b ∈ ones
  by_cases he : spanN (fun c => c != b) ones = ones.length
  ·rw [if_pos he]
   have := h.1 he
   simp [this]
  ·rw [if_neg he]
   constructor
   ·intro _; exact Classical.byContradiction fun q => he (h.2 q)
   ·intro _; omega
 have tail : ((byO (b :: t) 0).bind fun x8 =>
  (strings_IndexByte [123, 125, 40, 41, 91, 93, 59, 58, 44, 37, 61, 60, 62, 43, 45, 42, 47] x8).bind fun x9 =>
  if (decide (x9 ≥ 0)) = true then
   some ((1 : Int), (0 : Int))
  else
   some (0, 14)) = some (prI (if b ∈ ones then (1, 0) else (0, 14))) := by
  simp only [byO_head, Option.bind_some, strings_IndexByte, e8, hone]
  by_cases hm : b ∈ ones
  ·simp [hm, prI]
  ·simp [hm, prI]
 unfold lex_sign sigS
 match t, hl with
 | [], _ =>
  have h1 : decide ((([b] : List UInt8).length : Int) > 1) = false := by simp
  simp only [h1, Option.bind_some, gdO, Bool.false_and, Bool.false_eq_true, if_false]
  rw [tail]
  simp
 | c :: t, hl =>
  have h1 : decide (((b :: c :: t).length : Int) > 1) = true := by simp; omega
  have h2 := slO_front (l := b :: c :: t) (n := 2) (by simp)
  have e1 : ((2 : Nat) : Int) = 2 := rfl
  rw [e1] at h2
  have h3 : strings_Contains [60, 61, 32, 62, 61, 32, 46, 46] [b, c] = some (Lib.contains [60, 61, 32, 62, 61, 32, 46, 46] [b, c]) := by
   unfold strings_Contains; rw [if_pos (by simp)]
  have h4 : strings_Contains [b, c] [32] = some (Lib.contains [b, c] [32]) := by
   unfold strings_Contains; rw [if_pos (by simp)]
  simp only [h1, Option.bind_some, gdO, h2, List.take_succ_cons, List.take_zero, h3, Bool.true_and]
  have h5 : Lib.contains [60, 61, 32, 62, 61, 32, 46, 46] [b, c] = (((b == 60) && (c == 61)) || (((b == 61) && (c == 32)) || (((b == 32) && (c == 62)) || (((b == 62) && (c == 61)) || (((b == 61) && (c == 32)) || (((b == 32) && (c == 46)) || ((b == 46) && (c == 46)))))))) := by
   simp only [contains_cons, contains_nil, List.isPrefixOf, List.isEmpty, Bool.and_true, Bool.or_false, Bool.and_false]
  have h6 : Lib.contains [b, c] [32] = ((32 == b) || (32 == c)) := by
   simp only [contains_cons, contains_nil, List.isPrefixOf, List.isEmpty, Bool.and_true, Bool.or_false]
  have hx : (Lib.contains [60, 61, 32, 62, 61, 32, 46, 46] [b, c] && !(Lib.contains [b, c] [32])) = decide ([b, c] = [60, 61] ∨ [b, c] = [62, 61] ∨ [b, c] = [46, 46]) := by
   rw [h5, h6, Bool.eq_iff_iff]
   simp only [Bool.and_eq_true, Bool.or_eq_true, beq_iff_eq, Bool.not_eq_true', Bool.or_eq_false_iff, beq_eq_false_iff_ne, decide_eq_true_eq, List.cons.injEq, and_true]
   constructor
   ·rintro ⟨h | h | h | h | h | h | h, h7, h8⟩
    ·exact .inl h
    ·exact absurd h.2.symm h8
    ·exact absurd h.1.symm h7
    ·exact .inr (.inl h)
    ·exact absurd h.2.symm h8
    ·exact absurd h.1.symm h7
    ·exact .inr (.inr h)
   ·rintro (⟨rfl, rfl⟩ | ⟨rfl, rfl⟩ | ⟨rfl, rfl⟩)
    ·exact ⟨.inl ⟨rfl, rfl⟩, by decide, by decide⟩
    ·exact ⟨.inr (.inr (.inr (.inl ⟨rfl, rfl⟩))), by decide, by decide⟩
    ·exact ⟨.inr (.inr (.inr (.inr (.inr (.inr ⟨rfl, rfl⟩))))), by decide, by decide⟩
  have htk : (b :: c :: t).take 2 = [b, c] := rfl
  rw [htk] at *
  cases hc : Lib.contains [60, 61, 32, 62, 61, 32, 46, 46] [b, c] with
  | false =>
   rw [hc, Bool.false_and] at hx
   have hno : ¬ ([b, c] = [60, 61] ∨ [b, c] = [62, 61] ∨ [b, c] = [46, 46]) := of_decide_eq_false hx.symm
   simp only [gdO, Bool.false_and, Bool.false_eq_true, if_false, Option.bind_some]
   rw [tail]
   simp only [hno, if_false]
  | true =>
   rw [hc, Bool.true_and] at hx
   simp only [gdO, h4, Option.bind_some, Bool.true_and, hx, decide_eq_true_eq]
   by_cases hy : [b, c] = [60, 61] ∨ [b, c] = [62, 61] ∨ [b, c] = [46, 46]
   ·simp only [hy, if_true]
    rfl
   ·simp only [hy, if_false]
    simp only [decide_eq_true_eq] at tail
    exact tail
def trI (x : Nat × Nat × Nat) : Int × Int × Int := ((x.1 : Int), (x.2.1 : Int), (x.2.2 : Int))
theorem next_eq {b : UInt8} {t : List UInt8} (hl : (b :: t).length < 4294967281) : lex_next (b :: t) = some (trI (nextS (b :: t))) := by
 have c57 : ∀ n, lex_call57 47 n = lex_isLetter n ∧ lex_call57 49 n = lex_isDigit n ∧ lex_call57 51 n = lex_kinds_1 n ∧ lex_call57 53 n = lex_kinds_2 n := fun n => ⟨rfl, rfl, rfl, rfl⟩
 have c58 : ∀ s, lex_call58 48 s = lex_word s ∧ lex_call58 50 s = lex_number s ∧ lex_call58 52 s = lex_quoted s ∧ lex_call58 54 s = lex_sign s := fun s => ⟨rfl, rfl, rfl, rfl⟩
 have hL : ∀ x : Int, letB b = decide (97 ≤ (b.toNat : Int) ∧ (b.toNat : Int) ≤ 122) := fun _ => by
  unfold letB; rw [Bool.eq_iff_iff]; simp; omega
 have hD : ∀ x : Int, digB b = decide (48 ≤ (b.toNat : Int) ∧ (b.toNat : Int) ≤ 57) := fun _ => by
  unfold digB; rw [Bool.eq_iff_iff]; simp; omega
 have hQ : ((b.toNat : Int) == 34) = decide (b = 34) := by
  rw [Bool.eq_iff_iff]
  have := toNat_eq (b := b) (n := 34) (by omega)
  simp
  constructor
  ·intro h; exact this.1 (by omega)
  ·rintro rfl; rfl
 have r0 : rdO lex_kindsL 0 = some ⟨47, 48⟩ := rfl
 have r1 : rdO lex_kindsL 1 = some ⟨49, 50⟩ := rfl
 have r2 : rdO lex_kindsL 2 = some ⟨51, 52⟩ := rfl
 have r3 : rdO lex_kindsL 3 = some ⟨53, 54⟩ := rfl
 have d0 : decide ((0 : Int) < 4) = true := by decide
 have d1 : decide ((1 : Int) < 4) = true := by decide
 have d2 : decide ((2 : Int) < 4) = true := by decide
 have d3 : decide ((3 : Int) < 4) = true := by decide
 have w0 : IntKind.wrap .i64 ((0 : Int) + 1) = 1 := by rw [wrap64 (by omega) (by omega)]; rfl
 have w1 : IntKind.wrap .i64 ((1 : Int) + 1) = 2 := by rw [wrap64 (by omega) (by omega)]; rfl
 have w2 : IntKind.wrap .i64 ((2 : Int) + 1) = 3 := by rw [wrap64 (by omega) (by omega)]; rfl
 have hn : nextS (b :: t) = if letB b = true then (0, wordS (b :: t)) else if digB b = true then (1, numS (b :: t)) else if b = 34 then (2, quoS (b :: t)) else (3, sigS (b :: t)) := rfl
 unfold lex_next
 rw [hn]
 cases h1 : letB b with
 | true =>
  have := hL 0
  rw [h1] at this
  simp only [if_true]
  refine bind_at (loopO_out (o := .inr (0, (prI (wordS (b :: t))).1, (prI (wordS (b :: t))).2)) ?_) rfl
  simp only [d0, if_true, r0, byO_head, (c57 _).1, isLetter_eq, ← this, (c58 _).1, word_eq, Option.bind_some]
 | false =>
  have hl1 := hL 0
  rw [h1] at hl1
  simp only [Bool.false_eq_true, if_false]
  cases h2 : digB b with
  | true =>
   have hd1 := hD 0
   rw [h2] at hd1
   simp only [if_true]
   refine bind_at (o := some _) ?_ ?_ (x := .inr (1, (prI (numS (b :: t))).1, (prI (numS (b :: t))).2))
   ·rw [loopO_on (s' := (1 : Int)), loopO_out]
    ·simp only [d1, if_true, r1, byO_head, (c57 _).2.1, isDigit_eq, ← hd1, (c58 _).2.1, number_eq (show (b :: t).length < 4611686018427387904 by omega), Option.bind_some]
    ·simp only [d0, if_true, r0, byO_head, (c57 _).1, isLetter_eq, ← hl1, Option.bind_some, Bool.false_eq_true, if_false, w0]
   ·rfl
  | false =>
   have hd1 := hD 0
   rw [h2] at hd1
   simp only [Bool.false_eq_true, if_false]
   by_cases h3 : b = 34
   ·rw [if_pos h3]
    have hq1 := hQ
    rw [decide_eq_true h3] at hq1
    refine bind_at (o := some _) ?_ ?_ (x := .inr (2, (prI (quoS (b :: t))).1, (prI (quoS (b :: t))).2))
    ·rw [loopO_on (s' := (1 : Int)), loopO_on (s' := (2 : Int)), loopO_out]
     ·simp only [d2, if_true, r2, byO_head, (c57 _).2.2.1, lex_kinds_1, hq1, (c58 _).2.2.1, quoted_eq (show (b :: t).length < 4611686018427387904 by omega), Option.bind_some]
     ·simp only [d1, if_true, r1, byO_head, (c57 _).2.1, isDigit_eq, ← hd1, Option.bind_some, Bool.false_eq_true, if_false, w1]
     ·simp only [d0, if_true, r0, byO_head, (c57 _).1, isLetter_eq, ← hl1, Option.bind_some, Bool.false_eq_true, if_false, w0]
    ·rfl
   ·rw [if_neg h3]
    have hq1 := hQ
    rw [decide_eq_false h3] at hq1
    refine bind_at (o := some _) ?_ ?_ (x := .inr (3, (prI (sigS (b :: t))).1, (prI (sigS (b :: t))).2))
    ·rw [loopO_on (s' := (1 : Int)), loopO_on (s' := (2 : Int)), loopO_on (s' := (3 : Int)), loopO_out]
     ·simp only [d3, if_true, r3, byO_head, (c57 _).2.2.2, lex_kinds_2, (c58 _).2.2.2, sign_eq hl, Option.bind_some]
     ·simp only [d2, if_true, r2, byO_head, (c57 _).2.2.1, lex_kinds_1, hq1, Option.bind_some, Bool.false_eq_true, if_false, w2]
     ·simp only [d1, if_true, r1, byO_head, (c57 _).2.1, isDigit_eq, ← hd1, Option.bind_some, Bool.false_eq_true, if_false, w1]
     ·simp only [d0, if_true, r0, byO_head, (c57 _).1, isLetter_eq, ← hl1, Option.bind_some, Bool.false_eq_true, if_false, w0]
    ·rfl
end Go.Av.G
end
section
set_option linter.unusedVariables false
set_option linter.unusedSimpArgs false
set_option maxRecDepth 4000
set_option maxHeartbeats 4000000
namespace Go.Av.G
open Go Go.Av Go.Proofs
def blankB (b : UInt8) : Bool := b == 32 || b == 9 || b == 10
def skipM : Bool → List UInt8 → Nat
 | _, [] => 0
 | true, b :: t => if b = 10 then 1 + skipM false t else 1 + skipM true t
 | false, b :: t => if blankB b = true then 1 + skipM false t else if b = 35 then 1 + skipM true t else 0
theorem skipM_le : ∀ (r : Bool) (s : List UInt8), skipM r s ≤ s.length
 | _, [] => by simp [skipM]
 | true, b :: t => by
  have h1 := skipM_le false t
  have h2 := skipM_le true t
  unfold skipM
  simp only [List.length_cons]
  split <;> omega
 | false, b :: t => by
  have h1 := skipM_le false t
  have h2 := skipM_le true t
  unfold skipM
  simp only [List.length_cons]
  split
  ·omega
  ·split <;> omega
theorem skipM_trim : ∀ s : List UInt8, skipM false s = (s.length - (Lib.trimLeftS s [32, 9, 10]).length) + skipM false (Lib.trimLeftS s [32, 9, 10]) ∧ (Lib.trimLeftS s [32, 9, 10]).length ≤ s.length ∧ (∀ b t, Lib.trimLeftS s [32, 9, 10] = b :: t → blankB b = false)
 | [] => by simp [skipM, Lib.trimLeftS]
 | b :: t => by
  obtain ⟨h1, h2, h3⟩ := skipM_trim t
  have hc : ([32, 9, 10] : List UInt8).contains b = blankB b := by
   unfold blankB
   simp only [List.contains_cons, List.contains_nil, Bool.or_false]
   cases b == 32 <;> cases b == 9 <;> cases b == 10 <;> rfl
  unfold Lib.trimLeftS at h1 h2 h3 ⊢
  rw [List.dropWhile_cons, hc]
  cases hb : blankB b with
  | true =>
   simp only [if_true, List.length_cons]
   rw [skipM, if_pos hb]
   exact ⟨by omega, by omega, h3⟩
  | false =>
   simp only [Bool.false_eq_true, if_false, Nat.sub_self, Nat.zero_add]
   exact ⟨trivial, Nat.le_refl _, fun b' t' e => by cases e; exact hb⟩
theorem skipM_true : ∀ t : List UInt8, skipM true t = if spanN (fun b => b != 10) t = t.length then t.length else spanN (fun b => b != 10) t + 1 + skipM false (t.drop (spanN (fun b => b != 10) t + 1))
 | [] => by simp [skipM, spanN_nil]
 | b :: t => by
  have ih := skipM_true t
  have hle := spanN_le (fun b => b != 10) t
  rw [skipM, spanN_cons, List.length_cons]
  by_cases hb : b = 10
  ·subst hb
   simp
  ·have h2 : (b != 10) = true := by simpa using hb
   rw [if_neg hb, ih]
   simp only [h2, if_true, List.drop_succ_cons]
   by_cases he : spanN (fun b => b != 10) t = t.length
   ·rw [if_pos he, if_pos (by omega)]; omega
   ·rw [if_neg he, if_neg (by omega)]; omega
theorem skip_loop {s : List UInt8} (hl : s.length < 4294967281) : ∀ (n : Nat) (rest : List UInt8), rest.length ≤ n → rest.length ≤ s.length →
  loopO (fun (qj2 : List UInt8) => match qj2 with
  | rest3 => (
   (strings_TrimLeft rest3 [32, 9, 10]).bind fun x4 =>
   (strings_HasPrefix x4 [35]).bind fun x5 =>
   if (!x5) = true then
    some (.inr (IntKind.wrap .i64 ((s.length : Int) - (x4.length : Int))))
   else
    (strings_Cut x4 [10]).bind fun x6 =>
    if (!x6.2.2) = true then
     some (.inr (s.length : Int))
    else
     some (.inl x6.2.1) : Option ((List UInt8) ⊕ Int))) rest = some ((s.length - rest.length + skipM false rest : Nat) : Int) := by
 intro n
 induction n with
 | zero =>
  intro rest hn hs
  match rest, hn with
  | [], _ =>
   have h1 : strings_TrimLeft [] [32, 9, 10] = some [] := by unfold strings_TrimLeft; rw [if_pos (by decide)]; rfl
   rw [loopO_out (o := (s.length : Int))]
   ·simp [skipM]
   ·have h2 : strings_HasPrefix [] [35] = some false := rfl
    simp only [h1, h2, Option.bind_some, Bool.not_false, if_true]
    rw [wrap64 (by simp <;> omega) (by simp <;> omega)]
    simp
 | succ n ih =>
  intro rest hn hs
  obtain ⟨h1, h2, h3⟩ := skipM_trim rest
  have ht : strings_TrimLeft rest [32, 9, 10] = some (Lib.trimLeftS rest [32, 9, 10]) := by unfold strings_TrimLeft; rw [if_pos (by decide)]
  generalize Lib.trimLeftS rest [32, 9, 10] = d at h1 h2 h3 ht
  have hstop : (∀ t, d ≠ 35 :: t) → strings_HasPrefix d [35] = some false ∧ skipM false d = 0 := by
   intro hd
   match d, h3, hd with
   | [], _, _ => exact ⟨rfl, rfl⟩
   | b :: t, h3, hd =>
    have hb := h3 b t rfl
    have hne : b ≠ 35 := fun e => hd t (by rw [e])
    refine ⟨?_, ?_⟩
    ·unfold strings_HasPrefix Lib.hasPrefix
     have : ((35 : UInt8) == b) = false := by simpa using fun e => hne e.symm
     simp [List.isPrefixOf, this]
    ·rw [skipM, if_neg (by simp [hb]), if_neg hne]
  by_cases hd : ∃ t, d = 35 :: t
  ·obtain ⟨t, rfl⟩ := hd
   have hp : strings_HasPrefix (35 :: t) [35] = some true := by unfold strings_HasPrefix Lib.hasPrefix; simp [List.isPrefixOf]
   have hcut : strings_Cut (35 :: t) [10] = some (Lib.cut (35 :: t) [10]) := by unfold strings_Cut; rw [if_pos (by omega)]
   have hsk : skipM false (35 :: t) = 1 + skipM true t := by rw [skipM, if_neg (by decide), if_pos rfl]
   have hix : Lib.index (35 :: t) [10] = if spanN (fun b => b != 10) t = t.length then -1 else ((spanN (fun b => b != 10) t + 1 : Nat) : Int) := by
    rw [index_one, indexByte_span, spanN_cons]
    simp only [show ((35 : UInt8) != 10) = true from rfl, if_true, List.length_cons]
    by_cases he : spanN (fun b => b != 10) t = t.length
    ·rw [if_pos he, if_pos (by omega)]
    ·rw [if_neg he, if_neg (by omega)]
   have hle := spanN_le (fun b => b != 10) t
   simp only [List.length_cons] at h1 h2
   have htr := skipM_true t
   by_cases he : spanN (fun b => b != 10) t = t.length
   ·rw [if_pos he] at hix htr
    rw [loopO_out (o := (s.length : Int))]
    ·congr 1
     omega
    ·have : Lib.cut (35 :: t) [10] = (35 :: t, [], false) := by unfold Lib.cut; rw [hix, if_neg (by omega)]
     simp only [ht, hp, hcut, this, Option.bind_some, Bool.not_true, Bool.false_eq_true, if_false, Bool.not_false, if_true]
   ·rw [if_neg he] at hix htr
    have hc : Lib.cut (35 :: t) [10] = ((35 :: t).take (spanN (fun b => b != 10) t + 1), t.drop (spanN (fun b => b != 10) t + 1), true) := by
     unfold Lib.cut
     rw [hix, if_pos (by omega)]
     simp
    have hlen : (t.drop (spanN (fun b => b != 10) t + 1)).length = t.length - (spanN (fun b => b != 10) t + 1) := List.length_drop ..
    rw [loopO_on (s' := t.drop (spanN (fun b => b != 10) t + 1)), ih _ (by omega) (by omega)]
    ·congr 1
     omega
    ·simp only [ht, hp, hcut, hc, Option.bind_some, Bool.not_true, Bool.false_eq_true, if_false]
  ·obtain ⟨hp, hz⟩ := hstop (fun t e => hd ⟨t, e⟩)
   rw [loopO_out (o := ((s.length - d.length : Nat) : Int))]
   ·congr 1
    omega
   ·simp only [ht, hp, Option.bind_some, Bool.not_false, if_true]
    rw [wrap64 (by omega) (by omega)]
    congr 2
    omega
theorem skip_eq {s : List UInt8} (hl : s.length < 4294967281) : lex_skip s = some (skipM false s : Int) := by
 unfold lex_skip
 rw [skip_loop hl s.length s (Nat.le_refl _) (Nat.le_refl _)]
 simp
def plS (s : List UInt8) : Int × Int := ((s.count 10 : Int) + 1, (s.length : Int) - Lib.lastIndexByte ⟨s.toArray⟩ 10)
theorem lastIdx_of (s : List UInt8) : (Lib.lastIndexByte ⟨s.toArray⟩ 10 = -1 ∧ 10 ∉ s) ∨ ∃ i : Nat, i < s.length ∧ Lib.lastIndexByte ⟨s.toArray⟩ 10 = i ∧ s[i]? = some 10 ∧ ∀ j, i < j → s[j]? ≠ some 10 := by
 have hsz : (ByteArray.mk s.toArray).size = s.length := by simp [ByteArray.size]
 have hat : ∀ j, j < s.length → ((((ByteArray.mk s.toArray).data[j]!).toNat : Int) = 10 ↔ s[j]? = some 10) := by
  intro j hj
  have e : (ByteArray.mk s.toArray).data[j]! = s[j] := by
   simp [hj]
  rw [e, List.getElem?_eq_getElem hj, Option.some.injEq]
  have := toNat_eq (b := s[j]) (n := 10) (by omega)
  constructor
  ·intro h; exact this.1 (by omega)
  ·intro h; rw [h]; rfl
 have h := Lib.lastIdx_spec ⟨s.toArray⟩ 10 s.length
 unfold Lib.lastIndexByte
 rw [hsz]
 rcases h with ⟨h1, h2⟩ | ⟨i, h1, h2, h3, h4⟩
 ·refine .inl ⟨h1, fun hm => ?_⟩
  obtain ⟨j, hj, he⟩ := List.getElem_of_mem hm
  exact h2 j hj ((hat j hj).2 (by rw [List.getElem?_eq_getElem hj, he]))
 ·refine .inr ⟨i, h1, h2, (hat i h1).1 h3, fun j hij he => ?_⟩
  have hj : j < s.length := (List.getElem?_eq_some_iff.1 he).1
  exact h4 j hij hj ((hat j hj).2 he)
theorem place_eq {s : List UInt8} (hl : s.length < 4611686018427387904) : lex_place s = some (plS s) := by
 have hr : -1 ≤ Lib.lastIndexByte ⟨s.toArray⟩ 10 ∧ Lib.lastIndexByte ⟨s.toArray⟩ 10 < s.length := by
  rcases lastIdx_of s with ⟨h, _⟩ | ⟨i, h1, h2, _⟩ <;> omega
 have hc : s.count 10 ≤ s.length := List.count_le_length
 unfold lex_place plS strings_LastIndexByte strings_Count Lib.countByte
 rw [if_pos hl]
 simp only [Option.bind_some]
 rw [wrap64 (by omega) (by omega), wrap64 (by omega) (by omega)]
end Go.Av.G
end
section
set_option linter.unusedVariables false
set_option linter.unusedSimpArgs false
set_option maxRecDepth 4000
set_option maxHeartbeats 4000000
namespace Go.Av.G
open Go Go.Av Go.Proofs
theorem nextS_len : ∀ {s : List UInt8} {k n : Nat}, nextS s = (k, n, 0) → 1 ≤ n ∧ n ≤ s.length
 | [], k, n, h => by simp [nextS] at h
 | b :: t, k, n, h => by
  have hn : nextS (b :: t) = if letB b = true then (0, wordS (b :: t)) else if digB b = true then (1, numS (b :: t)) else if b = 34 then (2, quoS (b :: t)) else (3, sigS (b :: t)) := rfl
  rw [hn] at h
  by_cases h1 : letB b = true
  ·rw [if_pos h1] at h
   unfold wordS at h
   split at h
   ·simp at h
   ·simp only [Prod.mk.injEq] at h
    have hw : worB b = true := by
     have := of_decide_eq_true h1
     unfold worB; simp; omega
    have := spanN_head (t := t) hw
    have := spanN_le worB (b :: t)
    omega
  ·rw [if_neg h1] at h
   by_cases h2 : digB b = true
   ·rw [if_pos h2] at h
    have hd1 := spanN_head (t := t) h2
    have hd2 := spanN_le digB (b :: t)
    have hm := moreN_le ((b :: t).drop (spanN digB (b :: t)))
    rw [List.length_drop] at hm
    unfold numS at h
    split at h
    ·simp at h
    ·split at h
     ·simp only [Prod.mk.injEq] at h
      omega
     ·simp only [Prod.mk.injEq] at h
      omega
   ·rw [if_neg h2] at h
    by_cases h3 : b = 34
    ·rw [if_pos h3] at h
     have hq := spanN_le notQ t
     unfold quoS at h
     simp only [List.drop_succ_cons, List.drop_zero] at h
     split at h
     ·simp at h
     ·split at h
      ·simp at h
      ·simp only [Prod.mk.injEq] at h
       simp only [List.length_cons]
       omega
    ·rw [if_neg h3] at h
     unfold sigS at h
     simp only [List.length_cons]
     by_cases hx : (b :: t).take 2 = [60, 61] ∨ (b :: t).take 2 = [62, 61] ∨ (b :: t).take 2 = [46, 46]
     ·simp only [hx, if_true, Prod.mk.injEq] at h
      have : 1 ≤ t.length := by
       match t, hx with
       | [], hx => simp at hx
       | c :: t, _ => simp
      omega
     ·simp only [hx, if_false] at h
      by_cases hm : b ∈ ones
      ·simp only [hm, if_true, Prod.mk.injEq] at h; omega
      ·simp [hm] at h
def lexL : Nat → List UInt8 → Nat → Nat → List (Nat × Nat × Nat) ⊕ (Nat × Nat)
 | 0, _, _, _ => .inl []
 | f + 1, rest, at_, k =>
  if rest = [] then .inl []
  else if (nextS rest).2.2 ≠ 0 then .inr (at_, (nextS rest).2.2)
  else if k = 1500 then .inr (at_, 6)
  else match lexL f ((rest.drop (nextS rest).2.1).drop (skipM false (rest.drop (nextS rest).2.1))) (at_ + (nextS rest).2.1 + skipM false (rest.drop (nextS rest).2.1)) (k + 1) with
   | .inl l => .inl ((at_, (nextS rest).1, (nextS rest).2.1) :: l)
   | .inr e => .inr e
def tokS (text : List UInt8) (x : Nat × Nat × Nat) : T_api_Token := ⟨(x.2.1 : Int), (plS (text.take x.1)).1, (plS (text.take x.1)).2, (text.drop x.1).take x.2.2⟩
def allS (text : List UInt8) : List (Nat × Nat × Nat) ⊕ (Nat × Nat) := lexL (text.length + 1) (text.drop (skipM false text)) (skipM false text) 0
theorem all_loop {text : List UInt8} (hl : text.length ≤ 8000) : ∀ (f at_ : Nat) (row : List T_api_Token), at_ ≤ text.length → text.length - at_ < f → row.length ≤ 1500 →
  loopO (fun (qj3 : Int × (List T_api_Token)) => match qj3 with
   | (at_4, row5) => (
    if (decide (at_4 < (text.length : Int))) = true then
     (slO text at_4 (text.length : Int)).bind fun x6 =>
     (lex_next x6).bind fun x7 =>
     if (x7.2.2 != 0) = true then
      some (.inr (.inr (([] : List T_api_Token), at_4, x7.2.2)))
     else
      if ((row5.length : Int) == 1500) = true then
       some (.inr (.inr (([] : List T_api_Token), at_4, 6)))
      else
       (slO text 0 at_4).bind fun x8 =>
       (lex_place x8).bind fun x9 =>
       (slO text at_4 (IntKind.wrap .i64 (at_4 + x7.2.1))).bind fun x10 =>
       (apO 40 row5 [(⟨x7.1, x9.1, x9.2, x10⟩ : T_api_Token)]).bind fun x11 =>
       (slO text (IntKind.wrap .i64 (at_4 + x7.2.1)) (text.length : Int)).bind fun x12 =>
       (lex_skip x12).bind fun x13 =>
       some (.inl (IntKind.wrap .i64 ((IntKind.wrap .i64 (at_4 + x7.2.1)) + x13), x11))
    else
     some (.inr (.inl row5)) : Option ((Int × (List T_api_Token)) ⊕ ((List T_api_Token) ⊕ ((List T_api_Token) × Int × Int))))) ((at_ : Int), row)
   = some (match lexL f (text.drop at_) at_ row.length with | .inl l => .inl (row ++ l.map (tokS text)) | .inr e => .inr ([], (e.1 : Int), (e.2 : Int))) := by
 intro f
 induction f with
 | zero => intro at_ row h1 h2; omega
 | succ f ih =>
  intro at_ row h1 h2 h3
  by_cases he : at_ = text.length
  ·subst he
   rw [loopO_out (o := .inl row)]
   ·simp [lexL]
   ·have : decide (((text.length : Nat) : Int) < (text.length : Int)) = false := by simp
    simp only [this, Bool.false_eq_true, if_false]
  ·have hlt : at_ < text.length := by omega
   have hd : decide ((at_ : Int) < (text.length : Int)) = true := by simp; omega
   have hrest : text.drop at_ ≠ [] := by simp; omega
   obtain ⟨b, t, hbt⟩ : ∃ b t, text.drop at_ = b :: t := by
    cases hx : text.drop at_ with
    | nil => exact absurd hx hrest
    | cons b t => exact ⟨b, t, rfl⟩
   have hlr : (b :: t).length = text.length - at_ := by rw [← hbt, List.length_drop]
   have hnext := next_eq (b := b) (t := t) (by omega)
   rw [← hbt] at hnext
   have hs1 := slO_drop (l := text) (n := at_) h1
   have hs2 := slO_front (l := text) (n := at_) h1
   rw [lexL, if_neg hrest]
   generalize hnx : nextS (text.drop at_) = nx at hnext
   obtain ⟨k, n, e⟩ := nx
   simp only [trI] at hnext
   by_cases hee : e = 0
   ·subst hee
    obtain ⟨hn1, hn2⟩ := nextS_len hnx
    rw [List.length_drop] at hn2
    simp only [ne_eq, not_true_eq_false, if_false]
    by_cases hfull : row.length = 1500
    ·rw [if_pos hfull, loopO_out (o := .inr ([], (at_ : Int), 6))]
     ·rfl
     ·have : ((row.length : Int) == 1500) = true := by simp [hfull]
      simp only [hd, if_true, hs1, hnext, Option.bind_some, Int.natCast_zero, bne_self_eq_false, Bool.false_eq_true, if_false, this]
    ·rw [if_neg hfull]
     have e1 : IntKind.wrap .i64 ((at_ : Int) + (n : Int)) = ((at_ + n : Nat) : Int) := by rw [wrap64 (by omega) (by omega)]; omega
     have hs3 := slO_mid (l := text) (a := at_) (b := at_ + n) (by omega) (by omega)
     have hs4 := slO_drop (l := text) (n := at_ + n) (by omega)
     have hdd : text.drop (at_ + n) = (text.drop at_).drop n := by rw [List.drop_drop]
     have hsk := skipM_le false ((text.drop at_).drop n)
     rw [List.length_drop, List.length_drop] at hsk
     have hskip := skip_eq (s := (text.drop at_).drop n) (by rw [List.length_drop, List.length_drop]; omega)
     have e2 : IntKind.wrap .i64 (((at_ + n : Nat) : Int) + (skipM false ((text.drop at_).drop n) : Int)) = ((at_ + n + skipM false ((text.drop at_).drop n) : Nat) : Int) := by rw [wrap64 (by omega) (by omega)]; omega
     have hpl := place_eq (s := text.take at_) (by simp; omega)
     have hap : ∀ x : T_api_Token, apO 40 row [x] = some (row ++ [x]) := fun x => by
      unfold apO
      rw [if_pos (by simp; omega)]
     have hmid : (text.take (at_ + n)).drop at_ = (text.drop at_).take n := by rw [List.drop_take]; congr 1; omega
     have hlen : ((row.length : Int) == 1500) = false := by simp; omega
     rw [loopO_on (s' := (((at_ + n + skipM false ((text.drop at_).drop n) : Nat) : Int), row ++ [tokS text (at_, k, n)])), ih (at_ + n + skipM false ((text.drop at_).drop n)) (row ++ [tokS text (at_, k, n)]) (by omega) (by omega) (by simp; omega)]
     ·have hdr : text.drop (at_ + n + skipM false ((text.drop at_).drop n)) = ((text.drop at_).drop n).drop (skipM false ((text.drop at_).drop n)) := by
       rw [List.drop_drop, List.drop_drop]
      rw [hdr, List.length_append, List.length_singleton]
      cases lexL f (((text.drop at_).drop n).drop (skipM false ((text.drop at_).drop n))) (at_ + n + skipM false ((text.drop at_).drop n)) (row.length + 1) with
      | inl l => simp
      | inr e => rfl
     ·simp only [hd, if_true, hs1, hnext, Option.bind_some, Int.natCast_zero, bne_self_eq_false, Bool.false_eq_true, if_false, hlen, hs2, hpl, e1, hs3, hmid, hap, hs4, hdd, hskip, e2]
      rfl
   ·have hne : ((e : Int) != 0) = true := by simp; omega
    simp only [ne_eq, hee, not_false_eq_true, if_true]
    rw [loopO_out (o := .inr ([], (at_ : Int), (e : Int)))]
    simp only [hd, if_true, hs1, hnext, Option.bind_some, hne]
theorem all_eq {text : List UInt8} (hl : text.length ≤ 8000) : lex_All text = some (match allS text with | .inl l => (l.map (tokS text), 0, 0) | .inr e => ([], (e.1 : Int), (e.2 : Int))) := by
 have hs := skipM_le false text
 unfold lex_All allS
 have h1 : decide ((text.length : Int) > 8000) = false := decide_eq_false (by omega)
 simp only [h1, Bool.false_eq_true, if_false, skip_eq (show text.length < 4294967281 by omega), Option.bind_some]
 have := all_loop hl (text.length + 1) (skipM false text) [] hs (by omega) (by simp)
 refine bind_at this ?_
 simp only [List.length_nil]
 cases lexL (text.length + 1) (text.drop (skipM false text)) (skipM false text) 0 with
 | inl l => simp
 | inr e => rfl
theorem all_long {text : List UInt8} (hl : 8000 < text.length) : lex_All text = some ([], 0, 4) := by
 unfold lex_All
 have h1 : decide ((text.length : Int) > 8000) = true := decide_eq_true (by omega)
 simp only [h1, if_true]
theorem alive : cashbooklaw14_alive = some true := by
 unfold cashbooklaw14_alive
 rw [all_eq (by decide)]
 have h : (match allS [114, 97, 116, 101, 32, 49, 46, 50, 53, 37, 32, 35, 32, 97, 32, 114, 101, 109, 97, 114, 107] with | .inl l => (l.map (tokS [114, 97, 116, 101, 32, 49, 46, 50, 53, 37, 32, 35, 32, 97, 32, 114, 101, 109, 97, 114, 107]), (0 : Int), (0 : Int)) | .inr e => ([], (e.1 : Int), (e.2 : Int))) = ([⟨0, 1, 1, [114, 97, 116, 101]⟩, ⟨1, 1, 6, [49, 46, 50, 53]⟩, ⟨3, 1, 10, [37]⟩], 0, 0) := by decide +kernel
 rw [h]
 rfl
end Go.Av.G
end
section
set_option linter.unusedVariables false
set_option linter.unusedSimpArgs false
set_option maxRecDepth 4000
set_option maxHeartbeats 4000000
namespace Go.Av.G
open Go Go.Av Go.Proofs
end Go.Av.G
end
section
set_option linter.unusedVariables false
set_option linter.unusedSimpArgs false
set_option maxRecDepth 4000
set_option maxHeartbeats 4000000
namespace Go.Av.G
open Go Go.Av Go.Proofs
end Go.Av.G
end
section
set_option linter.unusedVariables false
set_option linter.unusedSimpArgs false
set_option maxRecDepth 4000
set_option maxHeartbeats 4000000
namespace Go.Av.G
open Go Go.Av Go.Proofs
end Go.Av.G
end
section
set_option linter.unusedVariables false
set_option linter.unusedSimpArgs false
set_option maxRecDepth 4000
set_option maxHeartbeats 4000000
namespace Go.Av.G
open Go Go.Av Go.Proofs
theorem span_loop {f : Int → Option (Int ⊕ Int)} {s : List UInt8} {q : UInt8 → Bool} (hl : s.length < 4611686018427387904)
  (hin : ∀ (i : Nat) (h : i < s.length), f i = some (if q s[i] = true then .inl (IntKind.wrap .i64 ((i : Int) + 1)) else .inr (i : Int)))
  (hout : f (s.length : Int) = some (.inr (s.length : Int))) : ∀ (n i : Nat), s.length - i = n → i ≤ s.length → loopO f (i : Int) = some ((i + spanN q (s.drop i) : Nat) : Int) := by
 intro n
 induction n with
 | zero =>
  intro i h1 h2
  have : i = s.length := by omega
  subst this
  rw [loopO_out hout]; simp [spanN_nil]
 | succ n ih =>
  intro i h1 h2
  have hi : i < s.length := by omega
  have h := hin i hi
  rw [List.drop_eq_getElem_cons hi, spanN_cons]
  by_cases hq : q s[i] = true
  ·rw [if_pos hq, wrap64 (by omega) (by omega), show (i : Int) + 1 = ((i + 1 : Nat) : Int) from rfl] at h
   rw [loopO_on h, if_pos hq, ih (i + 1) (by omega) (by omega)]
   congr 2; omega
  ·rw [if_neg hq] at h
   rw [loopO_out h, if_neg hq]; rfl
theorem letZ (b : UInt8) : decide ((97 : Int) ≤ (b.toNat : Int) ∧ (b.toNat : Int) ≤ 122) = letB b := decide_eq_decide.2 (by omega)
theorem digZ (b : UInt8) : decide ((48 : Int) ≤ (b.toNat : Int) ∧ (b.toNat : Int) ≤ 57) = digB b := decide_eq_decide.2 (by omega)
theorem rletter_eq (n : Int) : cashbookref14_letter n = some (decide (97 ≤ n ∧ n ≤ 122)) := by simp [cashbookref14_letter]
theorem rdigit_eq (n : Int) : cashbookref14_digit n = some (decide (48 ≤ n ∧ n ≤ 57)) := by simp [cashbookref14_digit]
theorem byte_is {b : UInt8} {n : Nat} (hn : n < 256) : ((b.toNat : Int) == (n : Int)) = decide (b = UInt8.ofNat n) := by
 rw [Bool.eq_iff_iff, decide_eq_true_eq, beq_iff_eq, ← toNat_eq (b := b) hn]
 omega
theorem rdigits_eq {s : List UInt8} (hl : s.length < 4611686018427387904) : cashbookref14_digits s = some (spanN digB s : Int) := by
 unfold cashbookref14_digits
 refine bind_at (span_loop (q := digB) hl ?_ ?_ s.length 0 (by omega) (by omega)) (by simp)
 ·intro i hi
  have hd : decide ((i : Int) < (s.length : Int)) = true := decide_eq_true (by omega)
  simp only [hd, Option.bind_some, byO_at hi, gdO_some, cond_true, rdigit_eq, digZ, Bool.true_and]
  split <;> rfl
 ·have hd : decide ((s.length : Int) < (s.length : Int)) = false := decide_eq_false (by omega)
  simp only [hd, Option.bind_some, gdO, cond_false, Bool.false_and, Bool.false_eq_true, if_false]
def reT (x : Nat × Nat × Nat) : T_cashbookref14_T := if x.2.2 = 0 then ⟨(x.1 : Int), (x.2.1 : Int), 0⟩ else ⟨0, 0, (x.2.2 : Int)⟩
theorem rword_eq {s : List UInt8} (hl : s.length < 4611686018427387904) : cashbookref14_word s = some (reT (0, wordS s)) := by
 unfold cashbookref14_word
 refine bind_at (span_loop (q := worB) hl ?_ ?_ s.length 0 (by omega) (by omega)) ?_
 ·intro i hi
  have hd : decide ((i : Int) < (s.length : Int)) = true := decide_eq_true (by omega)
  have hw : (letB s[i] || digB s[i] || ((s[i].toNat : Int) == 95)) = worB s[i] := by
   have h95 : ((s[i].toNat : Int) == 95) = decide (s[i].toNat = 95) := by
    rw [Bool.eq_iff_iff, decide_eq_true_eq, beq_iff_eq]; omega
   rw [h95]
   unfold letB digB worB
   rw [Bool.eq_iff_iff]
   simp
   omega
  simp only [hd, Option.bind_some, byO_at hi, gdO_some, cond_true, rletter_eq, letZ, Bool.true_and]
  cases h1 : letB s[i] with
  | true =>
   rw [h1] at hw
   simp only [Bool.true_or] at hw
   simp only [gdO, Bool.not_true, cond_false, Option.bind_some, Bool.true_or, if_true, ← hw]
  | false =>
   rw [h1] at hw
   simp only [Bool.not_false, cond_true, rdigit_eq, digZ, gdO_some, Option.bind_some, Bool.false_or]
   cases h2 : digB s[i] with
   | true =>
    rw [h2] at hw
    simp only [Bool.false_or, Bool.true_or] at hw
    simp only [gdO, Bool.not_true, cond_false, Option.bind_some, Bool.true_or, if_true, ← hw]
   | false =>
    rw [h2] at hw
    simp only [Bool.false_or] at hw
    simp only [Bool.not_false, cond_true, Bool.false_or, hw]
    split <;> rfl
 ·have hd : decide ((s.length : Int) < (s.length : Int)) = false := decide_eq_false (by omega)
  simp only [hd, Option.bind_some, gdO, cond_false, Bool.false_and, Bool.false_eq_true, if_false]
 ·simp only [Nat.zero_add, List.drop_zero, wordS]
  by_cases h : 32 < spanN worB s
  ·rw [if_pos (decide_eq_true (by omega)), if_pos h]; rfl
  ·rw [if_neg (by simp; omega), if_neg h]; rfl
theorem rmore_eq {α : Type} {s : List UInt8} (hl : s.length < 4611686018427387904) {d : Nat} (hd : d ≤ s.length) (F : Int → Option α) :
  ((some (decide ((IntKind.wrap .i64 ((d : Int) + 1)) < (s.length : Int)))).bind fun c3 =>
 (gdO c3 (byO s (d : Int)) 0).bind fun x4 =>
 (some (c3 && (x4 == 46))).bind fun c5 =>
 (gdO c5 (byO s (IntKind.wrap .i64 ((d : Int) + 1))) 0).bind fun x6 =>
 (gdO c5 (cashbookref14_digit x6) (default : Bool)).bind fun x7 =>
 ((if (c5 && x7) = true then
   (slO s (IntKind.wrap .i64 ((d : Int) + 1)) (s.length : Int)).bind fun x9 =>
   (cashbookref14_digits x9).bind fun x10 =>
   some x10
 else
  some 0) : Option Int).bind F) = F (moreN (s.drop d) : Int) := by
 have e1 : IntKind.wrap .i64 ((d : Int) + 1) = ((d + 1 : Nat) : Int) := by rw [wrap64 (by omega) (by omega)]; rfl
 rw [e1]
 by_cases h1 : d + 1 < s.length
 ·have hc : decide (((d + 1 : Nat) : Int) < (s.length : Int)) = true := decide_eq_true (by omega)
  have hdr : s.drop d = s[d] :: s[d + 1] :: s.drop (d + 2) := by
   rw [List.drop_eq_getElem_cons (show d < s.length by omega), List.drop_eq_getElem_cons h1]
  have hdr1 : s.drop (d + 1) = s[d + 1] :: s.drop (d + 2) := List.drop_eq_getElem_cons h1
  have h46 : ((s[d].toNat : Int) == 46) = decide (s[d] = 46) := byte_is (n := 46) (by omega)
  have hm : moreN (s.drop d) = if s[d] = 46 then spanN digB (s[d + 1] :: s.drop (d + 2)) else 0 := by rw [hdr]; rfl
  simp only [hc, Option.bind_some, gdO_some, byO_at (show d < s.length by omega), cond_true, h46, Bool.true_and]
  rw [hm]
  by_cases h2 : s[d] = 46
  ·simp only [h2, decide_true, byO_at h1, gdO_some, cond_true, Option.bind_some, rdigit_eq, digZ, Bool.true_and, if_true]
   cases h3 : digB s[d + 1] with
   | true =>
    have hs := slO_drop (l := s) (n := d + 1) (by omega)
    have hr := rdigits_eq (s := s.drop (d + 1)) (by rw [List.length_drop]; omega)
    simp only [if_true, hs, Option.bind_some, hr]
    rw [hdr1]
   | false =>
    simp only [spanN_cons, h3, Bool.false_eq_true, if_false]
    rfl
  ·simp only [h2, decide_false, gdO, cond_false, Bool.false_and, Bool.false_eq_true, if_false, Option.bind_some]
   rfl
 ·have hc : decide (((d + 1 : Nat) : Int) < (s.length : Int)) = false := decide_eq_false (by omega)
  have hm : moreN (s.drop d) = 0 := by
   have := moreN_le (s.drop d)
   rw [List.length_drop] at this
   unfold moreN
   split
   ·rename_i b c t he
    have := congrArg List.length he
    rw [List.length_drop] at this
    simp at this
    omega
   ·rfl
  rw [hm]
  simp only [hc, gdO, cond_false, Bool.false_and, Bool.false_eq_true, if_false, Option.bind_some]
  rfl
theorem rnumber_eq {b : UInt8} {t : List UInt8} (hl : (b :: t).length < 4611686018427387904) : cashbookref14_number (b :: t) = some (reT (1, numS (b :: t))) := by
 generalize hs : b :: t = s at hl
 have hd := spanN_le digB s
 have hm := moreN_le (s.drop (spanN digB s))
 rw [List.length_drop] at hm
 have h0 : byO s 0 = some (b.toNat : Int) := by rw [← hs]; exact byO_head
 have hh : s.head? = some b := by rw [← hs]; rfl
 unfold cashbookref14_number
 refine bind_at (rdigits_eq hl) ?_
 refine (rmore_eq hl hd _).trans ?_
 unfold numS
 generalize spanN digB s = d at hd hm
 generalize moreN (s.drop d) = m at hm
 have h48 : ((b.toNat : Int) == 48) = decide (b = 48) := byte_is (n := 48) (by omega)
 simp only [h0, gdO_some, Option.bind_some, hh, Option.some.injEq]
 by_cases c1 : 15 < d
 ·have : decide ((d : Int) > 15) = true := decide_eq_true (by omega)
  simp only [this, Bool.true_or, if_true]
  rw [if_pos (.inl c1)]
  rfl
 ·have e1 : decide ((d : Int) > 15) = false := decide_eq_false (by omega)
  by_cases c2 : 9 < m
  ·have : decide ((m : Int) > 9) = true := decide_eq_true (by omega)
   simp only [e1, this, Bool.false_or, Bool.true_or, if_true]
   rw [if_pos (.inr (.inl c2))]
   rfl
  ·have e2 : decide ((m : Int) > 9) = false := decide_eq_false (by omega)
   simp only [e1, e2, Bool.or_self, Bool.not_false, Bool.true_and, Bool.false_or]
   by_cases c3 : 1 < d ∧ b = 48
   ·have e3 : decide ((d : Int) > 1) = true := decide_eq_true (by omega)
    simp only [e3, cond_true, h48, decide_eq_true c3.2, Bool.and_self, if_true]
    rw [if_pos (.inr (.inr c3))]
    rfl
   ·have e3 : (decide ((d : Int) > 1) && ((bif decide ((d : Int) > 1) then (b.toNat : Int) else 0) == 48)) = false := by
     by_cases q : 1 < d
     ·have e3 : decide ((d : Int) > 1) = true := decide_eq_true (by omega)
      simp only [e3, cond_true, h48, Bool.true_and]
      exact decide_eq_false (fun hb => c3 ⟨q, hb⟩)
     ·have e3 : decide ((d : Int) > 1) = false := decide_eq_false (by omega)
      simp only [e3, Bool.false_and]
    have hno : ¬ (15 < d ∨ 9 < m ∨ 1 < d ∧ b = 48) := fun h => h.elim c1 (fun h => h.elim c2 c3)
    simp only [e3, Bool.false_eq_true, if_false, if_neg hno]
    by_cases c4 : 0 < m
    ·have e4 : IntKind.wrap .i64 ((d : Int) + 1) = ((d + 1 : Nat) : Int) := by rw [wrap64 (by omega) (by omega)]; rfl
     have e5 : IntKind.wrap .i64 (((d + 1 : Nat) : Int) + (m : Int)) = ((d + 1 + m : Nat) : Int) := by rw [wrap64 (by omega) (by omega)]; omega
     rw [e4, e5, if_pos (decide_eq_true (show (m : Int) > 0 by omega)), if_pos c4]
     rfl
    ·rw [if_neg (show ¬ (decide ((m : Int) > 0) = true) by simp; omega), if_neg c4]
     rfl
end Go.Av.G
end
section
set_option linter.unusedVariables false
set_option linter.unusedSimpArgs false
set_option maxRecDepth 4000
set_option maxHeartbeats 4000000
namespace Go.Av.G
open Go Go.Av Go.Proofs
theorem bad_loop {O : Type} {f : Int → Option (Int ⊕ O)} {u : List UInt8} {q : UInt8 → Bool} {o e : O} (hl : u.length < 4611686018427387904)
  (hin : ∀ (i : Nat) (h : i < u.length), f i = some (if q u[i] = true then .inl (IntKind.wrap .i64 ((i : Int) + 1)) else .inr o))
  (hout : f (u.length : Int) = some (.inr e)) : ∀ (n i : Nat), u.length - i = n → i ≤ u.length → loopO f (i : Int) = some (if spanN q (u.drop i) < u.length - i then o else e) := by
 intro n
 induction n with
 | zero =>
  intro i h1 h2
  have : i = u.length := by omega
  subst this
  rw [loopO_out hout, if_neg (by omega)]
 | succ n ih =>
  intro i h1 h2
  have hi : i < u.length := by omega
  have h := hin i hi
  rw [List.drop_eq_getElem_cons hi, spanN_cons]
  by_cases hq : q u[i] = true
  ·rw [if_pos hq, wrap64 (by omega) (by omega), show (i : Int) + 1 = ((i + 1 : Nat) : Int) from rfl] at h
   rw [loopO_on h, ih (i + 1) (by omega) (by omega)]
   simp only [hq, if_true]
   by_cases h3 : spanN q (u.drop (i + 1)) < u.length - (i + 1)
   ·rw [if_pos h3, if_pos (by omega)]
   ·rw [if_neg h3, if_neg (by omega)]
  ·rw [if_neg hq] at h
   rw [loopO_out h, if_neg hq, if_pos (by omega)]
theorem rquoted_eq {b : UInt8} {t : List UInt8} (hl : (b :: t).length < 4611686018427387904) : cashbookref14_quoted (b :: t) = some (reT (2, quoS (b :: t))) := by
 have hn := spanN_le notQ t
 have hlt : (b :: t).length = t.length + 1 := rfl
 unfold cashbookref14_quoted
 refine bind_at (span_loop (q := notQ) hl ?_ ?_ t.length 1 (by simp) (by simp)) ?_
 ·intro i hi
  have hd : decide ((i : Int) < ((b :: t).length : Int)) = true := decide_eq_true (by omega)
  have hq : (((b :: t)[i].toNat : Int) != 34) = notQ (b :: t)[i] := by
   have := byte_is (b := (b :: t)[i]) (n := 34) (by omega)
   unfold notQ
   rw [show (((b :: t)[i].toNat : Int) != 34) = !(((b :: t)[i].toNat : Int) == ((34 : Nat) : Int)) from rfl, this]
   rw [Bool.eq_iff_iff]
   simp
  simp only [hd, Option.bind_some, byO_at hi, gdO_some, cond_true, Bool.true_and, hq]
  split <;> rfl
 ·have hd : decide (((b :: t).length : Int) < ((b :: t).length : Int)) = false := decide_eq_false (by omega)
  simp only [hd, Option.bind_some, gdO, cond_false, Bool.false_and, Bool.false_eq_true, if_false]
 ·simp only [List.drop_succ_cons, List.drop_zero, quoS]
  by_cases c1 : spanN notQ t = t.length
  ·have : (((1 + spanN notQ t : Nat) : Int) == ((b :: t).length : Int)) = true := by rw [beq_iff_eq, hlt]; omega
   rw [if_pos this, if_pos c1]
   rfl
  ·have : (((1 + spanN notQ t : Nat) : Int) == ((b :: t).length : Int)) = false := by rw [beq_eq_false_iff_ne, hlt]; omega
   simp only [this, Bool.false_eq_true, if_false, c1]
   have hu : ((b :: t).take (1 + spanN notQ t)).length = 1 + spanN notQ t := by rw [List.length_take, hlt]; omega
   have hu2 : ((b :: t).take (1 + spanN notQ t)).drop 1 = t.take (spanN notQ t) := by
    rw [Nat.add_comm 1]; rfl
   refine bind_at (bad_loop (u := (b :: t).take (1 + spanN notQ t)) (q := prB) (o := (.inr (⟨0, 0, 3⟩ : T_cashbookref14_T) : Unit ⊕ T_cashbookref14_T)) (e := .inl ()) (by rw [hu]; omega) ?_ ?_ (spanN notQ t) 1 (by rw [hu]; omega) (by rw [hu]; omega)) ?_
   ·intro i hi
    have hi2 : i < (b :: t).length := by rw [hu] at hi; rw [hlt]; omega
    have hd : decide ((i : Int) < ((1 + spanN notQ t : Nat) : Int)) = true := decide_eq_true (by rw [hu] at hi; omega)
    have hg : ((b :: t).take (1 + spanN notQ t))[i] = (b :: t)[i] := by simp
    rw [hg]
    generalize hx : (b :: t)[i] = x
    have hb : byO (b :: t) (i : Int) = some (x.toNat : Int) := by rw [byO_at hi2, hx]
    simp only [hd, if_true, hb, Option.bind_some, gdO_some]
    have hp : (decide ((x.toNat : Int) < 32) || decide ((bif !decide ((x.toNat : Int) < 32) then (x.toNat : Int) else 0) > 126)) = !prB x := by
     by_cases h1 : (x.toNat : Int) < 32
     ·simp only [h1, decide_true, Bool.true_or]
      unfold prB
      rw [decide_eq_false (by omega)]
      rfl
     ·simp only [h1, decide_false, Bool.false_or, Bool.not_false, cond_true]
      unfold prB
      rw [Bool.eq_iff_iff]
      simp
      omega
    rw [hp]
    cases prB x <;> rfl
   ·rw [hu]
    have hd : decide (((1 + spanN notQ t : Nat) : Int) < ((1 + spanN notQ t : Nat) : Int)) = false := decide_eq_false (by omega)
    simp only [hd, Bool.false_eq_true, if_false]
   ·rw [hu, hu2, Nat.add_sub_cancel_left]
    have e1 : IntKind.wrap .i64 (((1 + spanN notQ t : Nat) : Int) + 1) = ((spanN notQ t + 2 : Nat) : Int) := by rw [wrap64 (by omega) (by omega)]; omega
    by_cases c3 : spanN prB (t.take (spanN notQ t)) < spanN notQ t
    ·rw [if_pos c3, if_pos (show 32 < spanN notQ t ∨ spanN prB (t.take (spanN notQ t)) < spanN notQ t from .inr c3)]
     rfl
    ·rw [if_neg c3]
     simp only [e1]
     by_cases c2 : 32 < spanN notQ t
     ·rw [if_pos (decide_eq_true (by omega)), if_pos (show 32 < spanN notQ t ∨ spanN prB (t.take (spanN notQ t)) < spanN notQ t from .inl c2)]
      rfl
     ·rw [if_neg (by simp only [decide_eq_true_eq]; omega), if_neg (show ¬ (32 < spanN notQ t ∨ spanN prB (t.take (spanN notQ t)) < spanN notQ t) from fun h => h.elim c2 c3)]
      rfl
theorem rsign_eq {b : UInt8} {t : List UInt8} (hl : (b :: t).length < 4611686018427387904) : cashbookref14_sign (b :: t) = some (reT (3, sigS (b :: t))) := by
 have tail : (((loopO (fun (qj8 : Int) => match qj8 with
   | i9 => (
    if (decide (i9 < ([123, 125, 40, 41, 91, 93, 59, 58, 44, 37, 61, 60, 62, 43, 45, 42, 47].length : Int))) = true then
     (byO [123, 125, 40, 41, 91, 93, 59, 58, 44, 37, 61, 60, 62, 43, 45, 42, 47] i9).bind fun x10 =>
     (byO (b :: t) 0).bind fun x11 =>
     if (x10 == x11) = true then
      some (.inr (.inr (⟨3, 1, 0⟩ : T_cashbookref14_T)))
     else
      some (.inl (IntKind.wrap .i64 (i9 + 1)))
    else
     some (.inr (.inl ())) : Option (Int ⊕ (Unit ⊕ T_cashbookref14_T)))) 0) : Option (Unit ⊕ T_cashbookref14_T))) = some (if b ∈ ones then .inr ⟨3, 1, 0⟩ else .inl ()) := by
  rw [loopL_any (l := ones) (fun c => c == b) (o := .inr (⟨3, 1, 0⟩ : T_cashbookref14_T)) (e := .inl ()) (by decide)]
  ·have : ones.any (fun c => c == b) = true ↔ b ∈ ones := by
    simp only [List.any_eq_true, beq_iff_eq]
    exact ⟨fun ⟨x, h1, h2⟩ => h2 ▸ h1, fun h => ⟨b, h, rfl⟩⟩
   by_cases h : b ∈ ones
   ·rw [if_pos (this.2 h), if_pos h]
   ·rw [if_neg (mt this.1 h), if_neg h]
  ·intro i hi
   show (if decide ((i : Int) < (ones.length : Int)) = true then (byO ones (i : Int)).bind _ else _) = _
   rw [if_pos (decide_eq_true (by omega)), byO_at hi]
   simp only [Option.bind_some, byO_head]
   have : ((ones[i].toNat : Int) == (b.toNat : Int)) = (ones[i] == b) := by
    rw [Bool.eq_iff_iff, beq_iff_eq, beq_iff_eq, ← UInt8.toNat_inj]; omega
   rw [this]
   split <;> rfl
  ·intro i hi
   show (if decide ((i : Int) < (ones.length : Int)) = true then _ else _) = _
   rw [if_neg (by simp only [decide_eq_true_eq]; omega)]
 have fin : ∀ x : Unit ⊕ T_cashbookref14_T, x = (if b ∈ ones then .inr ⟨3, 1, 0⟩ else .inl ()) → (match x with
  | .inr o => some o
  | .inl _ => some (⟨0, 0, 14⟩ : T_cashbookref14_T)) = some (reT (3, if b ∈ ones then (1, 0) else (0, 14))) := by
  rintro x rfl
  by_cases h : b ∈ ones
  ·rw [if_pos h, if_pos h]; rfl
  ·rw [if_neg h, if_neg h]; rfl
 unfold cashbookref14_sign sigS
 cases t with
 | nil =>
  have e : decide ((([b] : List UInt8).length : Int) > 1) = false := by simp
  have h1 : ¬ ([b].take 2 = ([60, 61] : List UInt8) ∨ [b].take 2 = [62, 61] ∨ [b].take 2 = [46, 46]) := by simp
  rw [if_neg h1]
  simp only [e, Option.bind_some, gdO, Bool.false_and, Bool.false_eq_true, if_false]
  exact bind_at tail (fin _ rfl)
 | cons c t =>
  have e : decide (((b :: c :: t).length : Int) > 1) = true := decide_eq_true (by simp; omega)
  have h2 := slO_front (l := b :: c :: t) (n := 2) (by simp)
  rw [show ((2 : Nat) : Int) = 2 from rfl, show (b :: c :: t).take 2 = [b, c] from rfl] at h2
  rw [show (b :: c :: t).take 2 = [b, c] from rfl]
  simp only [e, h2, gdO_some, Option.bind_some, cond_true, Bool.true_and]
  by_cases p1 : [b, c] = ([60, 61] : List UInt8)
  ·have e1 : ([b, c] == ([60, 61] : List UInt8)) = true := by rw [beq_iff_eq]; exact p1
   simp only [e1, Bool.true_or, if_true]
   rw [if_pos (.inl p1)]
   rfl
  ·have e1 : ([b, c] == ([60, 61] : List UInt8)) = false := by rw [beq_eq_false_iff_ne]; exact p1
   simp only [e1, Bool.false_or, Bool.not_false, cond_true]
   by_cases p2 : [b, c] = ([62, 61] : List UInt8)
   ·have e2 : ([b, c] == ([62, 61] : List UInt8)) = true := by rw [beq_iff_eq]; exact p2
    simp only [e2, Bool.true_or, if_true]
    rw [if_pos (.inr (.inl p2))]
    rfl
   ·have e2 : ([b, c] == ([62, 61] : List UInt8)) = false := by rw [beq_eq_false_iff_ne]; exact p2
    simp only [e2, Bool.false_or, Bool.not_false, cond_true]
    by_cases p3 : [b, c] = ([46, 46] : List UInt8)
    ·have e3 : ([b, c] == ([46, 46] : List UInt8)) = true := by rw [beq_iff_eq]; exact p3
     simp only [e3, if_true]
     rw [if_pos (.inr (.inr p3))]
     rfl
    ·have e3 : ([b, c] == ([46, 46] : List UInt8)) = false := by rw [beq_eq_false_iff_ne]; exact p3
     simp only [e3, Bool.false_eq_true, if_false]
     rw [if_neg (fun h => h.elim p1 (fun h => h.elim p2 p3))]
     exact bind_at tail (fin _ rfl)
theorem rnext_eq {b : UInt8} {t : List UInt8} (hl : (b :: t).length < 4611686018427387904) : cashbookref14_next (b :: t) = some (reT (nextS (b :: t))) := by
 have hn : nextS (b :: t) = if letB b = true then (0, wordS (b :: t)) else if digB b = true then (1, numS (b :: t)) else if b = 34 then (2, quoS (b :: t)) else (3, sigS (b :: t)) := rfl
 unfold cashbookref14_next
 rw [hn]
 have hQ : ((b.toNat : Int) == 34) = decide (b = 34) := byte_is (n := 34) (by omega)
 simp only [byO_head, Option.bind_some, rletter_eq, letZ, rdigit_eq, digZ, hQ, rword_eq hl, rnumber_eq hl, rquoted_eq hl, rsign_eq hl]
 by_cases h1 : letB b = true
 ·rw [if_pos h1, if_pos h1]
 ·rw [if_neg h1, if_neg h1]
  by_cases h2 : digB b = true
  ·rw [if_pos h2, if_pos h2]
  ·rw [if_neg h2, if_neg h2]
   by_cases h3 : b = 34
   ·rw [if_pos (decide_eq_true h3), if_pos h3]
   ·rw [if_neg (by simp only [decide_eq_true_eq]; exact h3), if_neg h3]
end Go.Av.G
end
section
set_option linter.unusedVariables false
set_option linter.unusedSimpArgs false
set_option maxRecDepth 4000
set_option maxHeartbeats 4000000
namespace Go.Av.G
open Go Go.Av Go.Proofs
def notN (b : UInt8) : Bool := b != 10
theorem skipM_rem : ∀ t : List UInt8, skipM true t = spanN notN t + skipM false (t.drop (spanN notN t))
 | [] => by simp [skipM, spanN_nil]
 | b :: t => by
  have ih := skipM_rem t
  rw [skipM, spanN_cons]
  by_cases hb : b = 10
  ·subst hb
   have : notN 10 = false := rfl
   rw [if_pos rfl, this]
   simp only [Bool.false_eq_true, if_false, List.drop_zero, Nat.zero_add]
   rfl
  ·have h2 : notN b = true := by unfold notN; simpa using hb
   rw [if_neg hb, ih, if_pos h2, List.drop_succ_cons]
   omega
theorem rblank_loop {s : List UInt8} (hl : s.length < 4611686018427387904) : ∀ (n i : Nat), s.length - i ≤ n → i ≤ s.length → ∃ o : Int ⊕ Int,
  (loopO (fun (qj2 : Int) => match qj2 with
  | n3 => (
   if (decide (n3 < (s.length : Int))) = true then
    (byO s n3).bind fun x4 =>
    if (x4 == 35) = true then
     ((loopO (fun (qj5 : Int) => match qj5 with
       | n6 => (
        (some (decide (n6 < (s.length : Int)))).bind fun c7 =>
        (gdO c7 (byO s n6) 0).bind fun x8 =>
        if (c7 && (x8 != 10)) = true then
         some (.inl (IntKind.wrap .i64 (n6 + 1)))
        else
         some (.inr n6) : Option (Int ⊕ Int))) n3) : Option Int).bind fun j5 =>
     some (.inl j5)
    else
     (byO s n3).bind fun x10 =>
     (some (x10 == 32)).bind fun c11 =>
     (gdO (!c11) (byO s n3) 0).bind fun x12 =>
     (some (c11 || (x12 == 9))).bind fun c13 =>
     (gdO (!c13) (byO s n3) 0).bind fun x14 =>
     if (c13 || (x14 == 10)) = true then
      some (.inl (IntKind.wrap .i64 (n3 + 1)))
     else
      some (.inr (.inr n3))
   else
    some (.inr (.inl n3)) : Option (Int ⊕ (Int ⊕ Int)))) (i : Int) : Option (Int ⊕ Int)) = some o ∧ (match o with | .inr o => some o | .inl n => some n) = some ((i + skipM false (s.drop i) : Nat) : Int) := by
 intro n
 induction n with
 | zero =>
  intro i h1 h2
  have : i = s.length := by omega
  subst this
  refine ⟨.inl (s.length : Int), ?_, by simp [skipM]⟩
  rw [loopO_out]
  have hd : decide ((s.length : Int) < (s.length : Int)) = false := decide_eq_false (by omega)
  simp only [hd, Bool.false_eq_true, if_false]
 | succ n ih =>
  intro i h1 h2
  by_cases he : i = s.length
  ·exact ih i (by omega) h2
  have hi : i < s.length := by omega
  have hd : decide ((i : Int) < (s.length : Int)) = true := decide_eq_true (by omega)
  have hdr := List.drop_eq_getElem_cons hi
  have hb := byO_at hi
  rw [hdr]
  generalize s[i] = b at hb hdr
  have h35 : ((b.toNat : Int) == 35) = decide (b = 35) := byte_is (n := 35) (by omega)
  have h32 : ((b.toNat : Int) == 32) = decide (b = 32) := byte_is (n := 32) (by omega)
  have h9 : ((b.toNat : Int) == 9) = decide (b = 9) := byte_is (n := 9) (by omega)
  have h10 : ((b.toNat : Int) == 10) = decide (b = 10) := byte_is (n := 10) (by omega)
  have hw : IntKind.wrap .i64 ((i : Int) + 1) = ((i + 1 : Nat) : Int) := by rw [wrap64 (by omega) (by omega)]; rfl
  by_cases p1 : b = 35
  ·have hin := span_loop (s := s) (q := notN) (f := fun (qj5 : Int) => match qj5 with
      | n6 => (
       (some (decide (n6 < (s.length : Int)))).bind fun c7 =>
       (gdO c7 (byO s n6) 0).bind fun x8 =>
       if (c7 && (x8 != 10)) = true then
        some (.inl (IntKind.wrap .i64 (n6 + 1)))
       else
        some (.inr n6) : Option (Int ⊕ Int))) hl (by
     intro k hk
     have hd : decide ((k : Int) < (s.length : Int)) = true := decide_eq_true (by omega)
     have hq : ((s[k].toNat : Int) != 10) = notN s[k] := by
      rw [show ((s[k].toNat : Int) != 10) = !((s[k].toNat : Int) == ((10 : Nat) : Int)) from rfl, byte_is (n := 10) (by omega)]
      unfold notN
      rw [Bool.eq_iff_iff]
      simp
     simp only [hd, Option.bind_some, byO_at hk, gdO_some, cond_true, Bool.true_and, hq]
     split <;> rfl) (by
     have hd : decide ((s.length : Int) < (s.length : Int)) = false := decide_eq_false (by omega)
     simp only [hd, Option.bind_some, gdO, cond_false, Bool.false_and, Bool.false_eq_true, if_false]) (s.length - i) i rfl h2
   have hsp : spanN notN (s.drop i) = spanN notN (s.drop (i + 1)) + 1 := by
    rw [hdr, spanN_cons, if_pos (by subst p1; rfl)]
   have hle := spanN_le notN (s.drop i)
   rw [List.length_drop] at hle
   obtain ⟨o, e1, e2⟩ := ih (i + spanN notN (s.drop i)) (by omega) (by omega)
   refine ⟨o, ?_, ?_⟩
   ·rw [loopO_on (s' := ((i + spanN notN (s.drop i) : Nat) : Int))]
    ·exact e1
    ·simp only [hd, if_true, hb, Option.bind_some, h35, p1, decide_true]
     exact bind_at hin rfl
   ·rw [e2]
    have : skipM false (b :: s.drop (i + 1)) = 1 + skipM true (s.drop (i + 1)) := by subst p1; rfl
    rw [this, skipM_rem, hsp, List.drop_drop, show i + (spanN notN (s.drop (i + 1)) + 1) = i + 1 + spanN notN (s.drop (i + 1)) by omega]
    congr 2
    omega
  ·have e35 : decide (b = 35) = false := decide_eq_false p1
   by_cases p2 : blankB b = true
   ·obtain ⟨o, e1, e2⟩ := ih (i + 1) (by omega) (by omega)
    refine ⟨o, ?_, ?_⟩
    ·rw [loopO_on (s' := ((i + 1 : Nat) : Int))]
     ·exact e1
     ·simp only [hd, if_true, hb, Option.bind_some, h35, e35, Bool.false_eq_true, if_false, gdO_some, h32, h9, h10, hw]
      rw [if_pos]
      unfold blankB at p2
      have q1 : (b == 32) = decide (b = 32) := rfl
      have q2 : (b == 9) = decide (b = 9) := rfl
      have q3 : (b == 10) = decide (b = 10) := rfl
      rw [q1, q2, q3] at p2
      cases c1 : decide (b = 32) with
      | true => rfl
      | false =>
       rw [c1] at p2
       simp only [Bool.not_false, cond_true, h9, Bool.false_or] at p2 ⊢
       cases c2 : decide (b = 9) with
       | true => rfl
       | false =>
        rw [c2] at p2
        simpa only [Bool.not_false, cond_true, h10, Bool.false_or] using p2
    ·rw [e2]
     have : skipM false (b :: s.drop (i + 1)) = 1 + skipM false (s.drop (i + 1)) := by rw [skipM, if_pos p2]
     rw [this]
     congr 2
     omega
   ·refine ⟨.inr (i : Int), ?_, ?_⟩
    ·rw [loopO_out]
     simp only [hd, if_true, hb, Option.bind_some, h35, e35, Bool.false_eq_true, if_false, gdO_some, h32, hw]
     have q1 : b ≠ 32 := fun h => p2 (by subst h; rfl)
     have q2 : b ≠ 9 := fun h => p2 (by subst h; rfl)
     have q3 : b ≠ 10 := fun h => p2 (by subst h; rfl)
     rw [if_neg]
     simp only [decide_eq_false q1, Bool.not_false, cond_true, h9, h10, decide_eq_false q2, decide_eq_false q3, Bool.or_self]
     simp
    ·have : skipM false (b :: s.drop (i + 1)) = 0 := by rw [skipM, if_neg p2, if_neg p1]
     rw [this]
     rfl
theorem rblank_eq {s : List UInt8} (hl : s.length < 4611686018427387904) : cashbookref14_blank s = some (skipM false s : Int) := by
 obtain ⟨o, h1, h2⟩ := rblank_loop hl s.length 0 (by omega) (by omega)
 unfold cashbookref14_blank
 refine bind_at h1 ?_
 rw [List.drop_zero, Nat.zero_add] at h2
 rw [← h2]
 cases o <;> rfl
end Go.Av.G
end
section
set_option linter.unusedVariables false
set_option linter.unusedSimpArgs false
set_option maxRecDepth 4000
set_option maxHeartbeats 4000000
namespace Go.Av.G
open Go Go.Av Go.Proofs
theorem plS_nil : plS [] = (1, 1) := by decide +kernel
theorem plS_snoc (u : List UInt8) (b : UInt8) : plS (u ++ [b]) = if b = 10 then ((plS u).1 + 1, 1) else ((plS u).1, (plS u).2 + 1) := by
 have hlen : (u ++ [b]).length = u.length + 1 := by simp
 have hge : ∀ j, j < u.length → (u ++ [b])[j]? = u[j]? := fun j hj => List.getElem?_append_left hj
 have hlast : (u ++ [b])[u.length]? = some b := by simp
 have out : ∀ j, u.length < j → (u ++ [b])[j]? = none := fun j hj => List.getElem?_eq_none_iff.2 (by omega)
 by_cases hb : b = 10
 ·subst hb
  rw [if_pos rfl]
  have hc : (u ++ [10]).count 10 = u.count 10 + 1 := by simp
  have hi : Lib.lastIndexByte ⟨(u ++ [10]).toArray⟩ 10 = (u.length : Int) := by
   rcases lastIdx_of (u ++ [10]) with ⟨_, n1⟩ | ⟨i, i1, i2, i3, i4⟩
   ·exact absurd (by simp) n1
   ·rw [i2]
    by_cases h : i < u.length
    ·exact absurd hlast (i4 u.length h)
    ·congr 1; omega
  unfold plS
  rw [hc, hi, hlen]
  simp only [Prod.mk.injEq]
  constructor <;> omega
 ·rw [if_neg hb]
  have hc : (u ++ [b]).count 10 = u.count 10 := by
   rw [List.count_append, List.count_singleton]
   simp [hb]
  have hi : Lib.lastIndexByte ⟨(u ++ [b]).toArray⟩ 10 = Lib.lastIndexByte ⟨u.toArray⟩ 10 := by
   rcases lastIdx_of u with ⟨e1, n1⟩ | ⟨i, i1, i2, i3, i4⟩
   ·rcases lastIdx_of (u ++ [b]) with ⟨e2, n2⟩ | ⟨j, j1, j2, j3, j4⟩
    ·rw [e1, e2]
    ·exfalso
     have := List.mem_of_getElem? j3
     rw [List.mem_append, List.mem_singleton] at this
     exact this.elim n1 (fun h => hb h.symm)
   ·rcases lastIdx_of (u ++ [b]) with ⟨e2, n2⟩ | ⟨j, j1, j2, j3, j4⟩
    ·exfalso
     exact n2 (List.mem_append.2 (.inl (List.mem_of_getElem? i3)))
    ·rw [i2, j2]
     have hj : j < u.length := by
      by_cases h : j < u.length
      ·exact h
      ·exfalso
       have : j = u.length := by omega
       subst this
       rw [hlast] at j3
       exact hb (Option.some.inj j3)
     rw [hge j hj] at j3
     by_cases h1 : i < j
     ·exact absurd j3 (i4 j h1)
     ·by_cases h2 : j < i
      ·have := j4 i h2
       rw [hge i i1] at this
       exact absurd i3 this
      ·congr 1; omega
  unfold plS
  rw [hc, hi, hlen]
  generalize Lib.lastIndexByte ⟨u.toArray⟩ 10 = x
  simp only [Prod.mk.injEq, true_and]
  omega
theorem plS_range (u : List UInt8) : 1 ≤ (plS u).1 ∧ (plS u).1 ≤ (u.length : Int) + 1 ∧ 1 ≤ (plS u).2 ∧ (plS u).2 ≤ (u.length : Int) + 1 := by
 have hr : -1 ≤ Lib.lastIndexByte ⟨u.toArray⟩ 10 ∧ Lib.lastIndexByte ⟨u.toArray⟩ 10 < u.length := by
  rcases lastIdx_of u with ⟨h, _⟩ | ⟨i, h1, h2, _⟩ <;> omega
 have hc : u.count 10 ≤ u.length := List.count_le_length
 have e1 : (plS u).1 = (u.count 10 : Int) + 1 := rfl
 have e2 : (plS u).2 = (u.length : Int) - Lib.lastIndexByte ⟨u.toArray⟩ 10 := rfl
 rw [e1, e2]
 generalize Lib.lastIndexByte ⟨u.toArray⟩ 10 = x at hr
 refine ⟨by omega, by omega, by omega, by omega⟩
theorem rPlace_loop {s : List UInt8} (hl : s.length < 4611686018427387904) {a : Nat} (ha : a ≤ s.length) : ∀ (n i : Nat), a - i = n → i ≤ a →
  loopO (fun (qj3 : Int × Int × Int) => match qj3 with
  | (line4, col5, i6) => (
   if (decide (i6 < (a : Int))) = true then
    (byO s i6).bind fun x7 =>
    ((if (x7 == 10) = true then
      some (IntKind.wrap .i64 (line4 + 1), 1)
    else
     some (line4, IntKind.wrap .i64 (col5 + 1))) : Option (Int × Int)).bind fun (line9, col10) =>
    some (.inl (line9, col10, IntKind.wrap .i64 (i6 + 1)))
   else
    some (.inr (line4, col5)) : Option ((Int × Int × Int) ⊕ (Int × Int)))) ((plS (s.take i)).1, (plS (s.take i)).2, (i : Int)) = some (plS (s.take a)) := by
 intro n
 induction n with
 | zero =>
  intro i h1 h2
  have : i = a := by omega
  subst this
  rw [loopO_out]
  have hd : decide ((i : Int) < (i : Int)) = false := decide_eq_false (by omega)
  simp only [hd, Bool.false_eq_true, if_false]
 | succ n ih =>
  intro i h1 h2
  have hi : i < s.length := by omega
  have hd : decide ((i : Int) < (a : Int)) = true := decide_eq_true (by omega)
  have hw : IntKind.wrap .i64 ((i : Int) + 1) = ((i + 1 : Nat) : Int) := by rw [wrap64 (by omega) (by omega)]; rfl
  have hr := plS_range (s.take i)
  have hlt : (s.take i).length = i := by rw [List.length_take]; omega
  rw [hlt] at hr
  have htk : s.take (i + 1) = s.take i ++ [s[i]] := by rw [List.take_append_getElem hi]
  have h10 : ((s[i].toNat : Int) == 10) = decide (s[i] = 10) := byte_is (n := 10) (by omega)
  have e1 : IntKind.wrap .i64 ((plS (s.take i)).1 + 1) = (plS (s.take i)).1 + 1 := wrap64 (by omega) (by omega)
  have e2 : IntKind.wrap .i64 ((plS (s.take i)).2 + 1) = (plS (s.take i)).2 + 1 := wrap64 (by omega) (by omega)
  rw [loopO_on, ih (i + 1) (by omega) (by omega)]
  simp only [hd, if_true, byO_at hi, Option.bind_some, hw, h10, e1, e2]
  rw [htk, plS_snoc]
  by_cases p : s[i] = 10
  ·rw [if_pos (decide_eq_true p), if_pos p]
   rfl
  ·rw [if_neg (by simp only [decide_eq_true_eq]; exact p), if_neg p]
   rfl
theorem rPlace_eq {s : List UInt8} (hl : s.length < 4611686018427387904) {a : Nat} (ha : a ≤ s.length) : cashbookref14_Place s (a : Int) = some (plS (s.take a)) := by
 have := rPlace_loop hl ha a 0 (by omega) (by omega)
 rw [List.take_zero, plS_nil] at this
 unfold cashbookref14_Place
 exact bind_at this rfl
theorem Place_no {s : List UInt8} {a : Int} (h : a < 0 ∨ a > (s.length : Int)) : lex_Place s a = some (0, 0, 1) := by
 unfold lex_Place
 have : (decide (a < 0) || decide (a > (s.length : Int))) = true := by
  rcases h with h | h
  ·rw [decide_eq_true h]; rfl
  ·rw [decide_eq_true h, Bool.or_true]
 simp only [Option.bind_some, this, if_true]
theorem Same_eq {a : List T_api_Token} (hn : a.length ≤ 1000000) : cashbookref14_Same a a = some true := by
 unfold cashbookref14_Same
 have h1 : ((a.length : Int) != (a.length : Int)) = false := by simp
 simp only [h1, Bool.false_eq_true, if_false]
 rw [loopI_any0 (n := a.length) (q := fun _ => false) (o := (Sum.inr false : Unit ⊕ Bool)) (e := Sum.inl ()) (by omega)]
 ·have : (List.range' 0 a.length).any (fun _ => false) = false := by simp
  rw [this]
  rfl
 ·intro i hi
  simp only [decide_eq_true_eq]
  rw [if_pos (by omega), rdO_at hi]
  simp only [Option.bind_some, T_api_Token.same_iff, decide_true, Bool.not_true, Bool.false_eq_true, if_false]
 ·intro i hi
  simp only [decide_eq_true_eq]
  rw [if_neg (by omega)]
end Go.Av.G
end
section
set_option linter.unusedVariables false
set_option linter.unusedSimpArgs false
set_option maxRecDepth 4000
set_option maxHeartbeats 4000000
namespace Go.Av.G
open Go Go.Av Go.Proofs
theorem Place_eq {text : List UInt8} (hl : text.length < 4611686018427387904) {i : Nat} (hi : i ≤ text.length) : lex_Place text (i : Int) = some ((plS (text.take i)).1, (plS (text.take i)).2, 0) := by
 unfold lex_Place
 have h1 : decide ((i : Int) < 0) = false := decide_eq_false (by omega)
 have h2 : decide ((i : Int) > (text.length : Int)) = false := decide_eq_false (by omega)
 simp only [h1, h2, Option.bind_some, Bool.or_self, Bool.false_eq_true, if_false, slO_front hi, place_eq (s := text.take i) (by simp; omega)]
end Go.Av.G
end
section
set_option linter.unusedVariables false
set_option linter.unusedSimpArgs false
set_option maxRecDepth 4000
set_option maxHeartbeats 4000000
namespace Go.Av.G
open Go Go.Av Go.Proofs
theorem rAll_loop {text : List UInt8} (hl : text.length ≤ 8000) : ∀ (f at_ : Nat) (row : List T_api_Token), at_ ≤ text.length → text.length - at_ < f → row.length ≤ 1500 →
  loopO (fun (qj3 : Int × (List T_api_Token)) => match qj3 with
   | (at_4, row5) => (
    if (decide (at_4 < (text.length : Int))) = true then
     (slO text at_4 (text.length : Int)).bind fun x6 =>
     (cashbookref14_next x6).bind fun x7 =>
     if (x7.f_E != 0) = true then
      some (.inr (.inr (([] : List T_api_Token), at_4, x7.f_E)))
     else
      if ((row5.length : Int) == 1500) = true then
       some (.inr (.inr (([] : List T_api_Token), at_4, 6)))
      else
       (cashbookref14_Place text at_4).bind fun x8 =>
       (slO text at_4 (IntKind.wrap .i64 (at_4 + x7.f_Long))).bind fun x9 =>
       (apO 40 row5 [(⟨x7.f_Kind, x8.1, x8.2, x9⟩ : T_api_Token)]).bind fun x10 =>
       (slO text (IntKind.wrap .i64 (at_4 + x7.f_Long)) (text.length : Int)).bind fun x11 =>
       (cashbookref14_blank x11).bind fun x12 =>
       some (.inl (IntKind.wrap .i64 ((IntKind.wrap .i64 (at_4 + x7.f_Long)) + x12), x10))
    else
     some (.inr (.inl row5)) : Option ((Int × (List T_api_Token)) ⊕ ((List T_api_Token) ⊕ ((List T_api_Token) × Int × Int))))) ((at_ : Int), row)
   = some (match lexL f (text.drop at_) at_ row.length with | .inl l => .inl (row ++ l.map (tokS text)) | .inr e => .inr ([], (e.1 : Int), (e.2 : Int))) := by
 intro f
 induction f with
 | zero => intro at_ row h1 h2; omega
 | succ f ih =>
  intro at_ row h1 h2 h3
  by_cases he : at_ = text.length
  ·subst he
   rw [loopO_out (o := .inl row)]
   ·simp [lexL]
   ·have : decide (((text.length : Nat) : Int) < (text.length : Int)) = false := by simp
    simp only [this, Bool.false_eq_true, if_false]
  ·have hlt : at_ < text.length := by omega
   have hd : decide ((at_ : Int) < (text.length : Int)) = true := by simp; omega
   have hrest : text.drop at_ ≠ [] := by simp; omega
   obtain ⟨b, t, hbt⟩ : ∃ b t, text.drop at_ = b :: t := by
    cases hx : text.drop at_ with
    | nil => exact absurd hx hrest
    | cons b t => exact ⟨b, t, rfl⟩
   have hlr : (b :: t).length = text.length - at_ := by rw [← hbt, List.length_drop]
   have hnext := rnext_eq (b := b) (t := t) (by omega)
   rw [← hbt] at hnext
   have hs1 := slO_drop (l := text) (n := at_) h1
   rw [lexL, if_neg hrest]
   generalize hnx : nextS (text.drop at_) = nx at hnext
   obtain ⟨k, n, e⟩ := nx
   by_cases hee : e = 0
   ·subst hee
    simp only [reT, if_true] at hnext
    obtain ⟨hn1, hn2⟩ := nextS_len hnx
    rw [List.length_drop] at hn2
    simp only [ne_eq, not_true_eq_false, if_false]
    by_cases hfull : row.length = 1500
    ·rw [if_pos hfull, loopO_out (o := .inr ([], (at_ : Int), 6))]
     ·rfl
     ·have : ((row.length : Int) == 1500) = true := by simp [hfull]
      simp only [hd, if_true, hs1, hnext, Option.bind_some, bne_self_eq_false, Bool.false_eq_true, if_false, this]
    ·rw [if_neg hfull]
     have e1 : IntKind.wrap .i64 ((at_ : Int) + (n : Int)) = ((at_ + n : Nat) : Int) := by rw [wrap64 (by omega) (by omega)]; omega
     have hs3 := slO_mid (l := text) (a := at_) (b := at_ + n) (by omega) (by omega)
     have hs4 := slO_drop (l := text) (n := at_ + n) (by omega)
     have hdd : text.drop (at_ + n) = (text.drop at_).drop n := by rw [List.drop_drop]
     have hsk := skipM_le false ((text.drop at_).drop n)
     rw [List.length_drop, List.length_drop] at hsk
     have hskip := rblank_eq (s := (text.drop at_).drop n) (by rw [List.length_drop, List.length_drop]; omega)
     have e2 : IntKind.wrap .i64 (((at_ + n : Nat) : Int) + (skipM false ((text.drop at_).drop n) : Int)) = ((at_ + n + skipM false ((text.drop at_).drop n) : Nat) : Int) := by rw [wrap64 (by omega) (by omega)]; omega
     have hpl := rPlace_eq (s := text) (by omega) h1
     have hap : ∀ x : T_api_Token, apO 40 row [x] = some (row ++ [x]) := fun x => by
      unfold apO
      rw [if_pos (by simp; omega)]
     have hmid : (text.take (at_ + n)).drop at_ = (text.drop at_).take n := by rw [List.drop_take]; congr 1; omega
     have hlen : ((row.length : Int) == 1500) = false := by simp; omega
     rw [loopO_on (s' := (((at_ + n + skipM false ((text.drop at_).drop n) : Nat) : Int), row ++ [tokS text (at_, k, n)])), ih (at_ + n + skipM false ((text.drop at_).drop n)) (row ++ [tokS text (at_, k, n)]) (by omega) (by omega) (by simp; omega)]
     ·have hdr : text.drop (at_ + n + skipM false ((text.drop at_).drop n)) = ((text.drop at_).drop n).drop (skipM false ((text.drop at_).drop n)) := by
       rw [List.drop_drop, List.drop_drop]
      rw [hdr, List.length_append, List.length_singleton]
      cases lexL f (((text.drop at_).drop n).drop (skipM false ((text.drop at_).drop n))) (at_ + n + skipM false ((text.drop at_).drop n)) (row.length + 1) with
      | inl l => simp
      | inr e => rfl
     ·simp only [hd, if_true, hs1, hnext, Option.bind_some, bne_self_eq_false, Bool.false_eq_true, if_false, hlen, hpl, e1, hs3, hmid, hap, hs4, hdd, hskip, e2]
      rfl
   ·have hne : ((e : Int) != 0) = true := by simp; omega
    simp only [reT, if_neg hee] at hnext
    simp only [ne_eq, hee, not_false_eq_true, if_true]
    rw [loopO_out (o := .inr ([], (at_ : Int), (e : Int)))]
    simp only [hd, if_true, hs1, hnext, Option.bind_some, hne]
theorem rAll_eq {text : List UInt8} (hl : text.length ≤ 8000) : cashbookref14_All text = some (match allS text with | .inl l => (l.map (tokS text), 0, 0) | .inr e => ([], (e.1 : Int), (e.2 : Int))) := by
 have hs := skipM_le false text
 unfold cashbookref14_All allS
 have h1 : decide ((text.length : Int) > 8000) = false := decide_eq_false (by omega)
 simp only [h1, Bool.false_eq_true, if_false, rblank_eq (show text.length < 4611686018427387904 by omega), Option.bind_some]
 have := rAll_loop hl (text.length + 1) (skipM false text) [] hs (by omega) (by simp)
 refine bind_at this ?_
 simp only [List.length_nil]
 cases lexL (text.length + 1) (text.drop (skipM false text)) (skipM false text) 0 with
 | inl l => simp
 | inr e => rfl
theorem rAll_long {text : List UInt8} (hl : 8000 < text.length) : cashbookref14_All text = some ([], 0, 4) := by
 unfold cashbookref14_All
 have h1 : decide ((text.length : Int) > 8000) = true := decide_eq_true (by omega)
 simp only [h1, if_true]
theorem lexL_len : ∀ (f : Nat) (rest : List UInt8) (at_ k : Nat) (l : List (Nat × Nat × Nat)), lexL f rest at_ k = .inl l → l.length ≤ f
 | 0, _, _, _, l, h => by simp [lexL] at h; subst h; simp
 | f + 1, rest, at_, k, l, h => by
  rw [lexL] at h
  split at h
  ·simp at h; subst h; simp
  ·split at h
   ·cases h
   ·split at h
    ·cases h
    ·split at h
     ·rename_i l' hl'
      have := lexL_len f _ _ _ l' hl'
      simp at h; subst h
      simp; omega
     ·cases h
theorem all_both {text : List UInt8} : ∃ r : List T_api_Token × Int × Int, lex_All text = some r ∧ cashbookref14_All text = some r ∧ r.1.length ≤ 1000000 := by
 by_cases hl : text.length ≤ 8000
 ·refine ⟨_, all_eq hl, rAll_eq hl, ?_⟩
  cases h : allS text with
  | inl l =>
   have := lexL_len _ _ _ _ l h
   simp; omega
  | inr e => simp
 ·exact ⟨_, all_long (by omega), rAll_long (by omega), by simp⟩
theorem lexTells_law (text : List UInt8) (a : Int) (h1 : text.length ≤ reachBytes) (h2 : inR .i64 a) : cashbooklaw14_LexTells text a = some true := by
 have h1 : text.length ≤ 140737488351232 := h1
 unfold cashbooklaw14_LexTells
 obtain ⟨T, hT, hc⟩ : ∃ T : List UInt8, T.length ≤ 140737488351232 ∧ ((if (decide ((text.length : Int) > 400) && (decide ((text.length : Int) ≤ 8000))) = true then
  (slO text 0 400).bind fun x5 =>
  some x5
 else
  some text) : Option (List UInt8)) = some T := by
  by_cases h : (decide ((text.length : Int) > 400) && (decide ((text.length : Int) ≤ 8000))) = true
  ·have h3 : 400 < text.length := by
    rw [Bool.and_eq_true, decide_eq_true_eq, decide_eq_true_eq] at h
    omega
   have hs := slO_front (l := text) (n := 400) (by omega)
   rw [show ((400 : Nat) : Int) = 400 from rfl] at hs
   refine ⟨text.take 400, by rw [List.length_take]; omega, ?_⟩
   rw [if_pos h, hs]; rfl
  ·exact ⟨text, h1, by rw [if_neg h]⟩
 simp only [Option.bind_some]
 refine bind_at hc ?_
 obtain ⟨r, e1, e2, e3⟩ := all_both (text := T)
 rw [e1, e2]
 have hsame := Same_eq e3
 simp only [Option.bind_some]
 by_cases hp : 0 ≤ a ∧ a ≤ (T.length : Int)
 ·obtain ⟨n, rfl⟩ := Int.eq_ofNat_of_zero_le hp.1
  have hn : n ≤ T.length := by omega
  have hlt := plS_range (T.take n)
  have c1 : decide (((n : Nat) : Int) < 0) = false := decide_eq_false (by omega)
  have c2 : decide (((n : Nat) : Int) > (T.length : Int)) = false := decide_eq_false (by omega)
  rw [Place_eq (by omega) hn]
  simp only [Option.bind_some, bne_self_eq_false, Bool.or_self, Bool.not_false, gdO, hsame, Bool.not_true, alive, Bool.false_eq_true, if_false, c1, c2, rPlace_eq (show T.length < 4611686018427387904 by omega) hn, beq_self_eq_true, Bool.and_self]
 ·have hno : a < 0 ∨ a > (T.length : Int) := by omega
  have c : (decide (a < 0) || decide (a > (T.length : Int))) = true := by
   rcases hno with h | h
   ·rw [decide_eq_true h]; rfl
   ·rw [decide_eq_true h, Bool.or_true]
  rw [Place_no hno]
  simp only [Option.bind_some, bne_self_eq_false, Bool.or_self, Bool.not_false, gdO, hsame, Bool.not_true, alive, Bool.false_eq_true, if_false, c, if_true, beq_self_eq_true, Bool.and_self]
end Go.Av.G
end
