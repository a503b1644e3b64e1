/- Columns as words of 64 bits: a set of workers below 1024. No program. -/
import Derived.Test.YtnokmbjgfglaoaaBase
set_option linter.unusedSimpArgs false
set_option linter.unusedVariables false
namespace Go.Proofs.Ytnokmbjgfglaoaa
open Go

/-- The first k bits of a word. -/
def wordK (f : Nat → Bool) (i : Nat) : Nat → Nat
  | 0 => 0
  | k + 1 => wordK f i k + if f (64 * i + k) then 2 ^ k else 0
def word (f : Nat → Bool) (i : Nat) : Nat := wordK f i 64

theorem wordK_lt (f : Nat → Bool) (i : Nat) : ∀ k, wordK f i k < 2 ^ k
  | 0 => by simp [wordK]
  | k + 1 => by
    have := wordK_lt f i k
    have e : 2 ^ (k + 1) = 2 ^ k + 2 ^ k := by rw [Nat.pow_succ]; omega
    unfold wordK
    split <;> omega

theorem wordK_bit (f : Nat → Bool) (i : Nat) : ∀ k j, (wordK f i k).testBit j = (decide (j < k) && f (64 * i + j))
  | 0, j => by simp [wordK]
  | k + 1, j => by
    have hl := wordK_lt f i k
    have ih := wordK_bit f i k j
    unfold wordK
    cases hf : f (64 * i + k) with
    | true =>
      simp only [if_true]
      have e := Nat.two_pow_add_eq_or_of_lt hl 1
      rw [Nat.mul_one] at e
      rw [Nat.add_comm, e, Nat.testBit_or, Nat.testBit_two_pow, ih]
      by_cases e : k = j
      · subst e; simp [hf]
      · have : decide (j < k + 1) = decide (j < k) := by
          rw [decide_eq_decide]; omega
        rw [this]; simp [e]
    | false =>
      simp only [Bool.false_eq_true, if_false, Nat.add_zero]
      rw [ih]
      by_cases e : k = j
      · subst e; simp [hf]
      · have : decide (j < k + 1) = decide (j < k) := by
          rw [decide_eq_decide]; omega
        rw [this]

theorem word_lt (f : Nat → Bool) (i : Nat) : word f i < 18446744073709551616 := wordK_lt f i 64
theorem word_bit (f : Nat → Bool) (i j : Nat) : (word f i).testBit j = (decide (j < 64) && f (64 * i + j)) := wordK_bit f i 64 j
theorem word_or (f g : Nat → Bool) (i : Nat) : word f i ||| word g i = word (fun w => f w || g w) i := by
  apply Nat.eq_of_testBit_eq
  intro j
  rw [Nat.testBit_or, word_bit, word_bit, word_bit, Bool.and_or_distrib_left]
theorem word_and (f g : Nat → Bool) (i : Nat) : word f i &&& word g i = word (fun w => f w && g w) i := by
  apply Nat.eq_of_testBit_eq
  intro j
  rw [Nat.testBit_and, word_bit, word_bit, word_bit]
  cases decide (j < 64) <;> simp
theorem word_set (f : Nat → Bool) (w : Nat) : word f (w / 64) ||| 2 ^ (w % 64) = word (fun v => f v || decide (v = w)) (w / 64) := by
  apply Nat.eq_of_testBit_eq
  intro j
  rw [Nat.testBit_or, word_bit, word_bit, Nat.testBit_two_pow]
  by_cases hj : j < 64
  · have e : decide (w % 64 = j) = decide (64 * (w / 64) + j = w) := by rw [decide_eq_decide]; omega
    rw [e]; simp [hj]
  · have e : decide (w % 64 = j) = false := by rw [decide_eq_false_iff_not]; omega
    rw [e]; simp [hj]
theorem word_other (f : Nat → Bool) (w i : Nat) (h : i ≠ w / 64) : word (fun v => f v || decide (v = w)) i = word f i := by
  apply Nat.eq_of_testBit_eq
  intro j
  rw [word_bit, word_bit]
  by_cases hj : j < 64
  · have e : decide (64 * i + j = w) = false := by rw [decide_eq_false_iff_not]; omega
    rw [e]; simp
  · simp [hj]
theorem word_congr {f g : Nat → Bool} {i : Nat} (h : ∀ w, w / 64 = i → f w = g w) : word f i = word g i := by
  apply Nat.eq_of_testBit_eq
  intro j
  rw [word_bit, word_bit]
  by_cases hj : j < 64
  · rw [h (64 * i + j) (by omega)]
  · simp [hj]
theorem word_zero (i : Nat) : word (fun _ => false) i = 0 := by
  apply Nat.eq_of_testBit_eq
  intro j
  rw [word_bit]; simp
theorem word_eq_zero {f : Nat → Bool} {i : Nat} (h : word f i = 0) : ∀ w, w / 64 = i → f w = false := by
  intro w hw
  have := word_bit f i (w % 64)
  rw [h, show 64 * i + w % 64 = w by omega] at this
  simp at this
  exact this (by omega)

/-- All sixteen words, as cells. -/
def colsA (f : Nat → Bool) : Array Value := ((List.range 16).map fun i => Value.int .u64 ((word f i : Nat) : Int)).toArray
theorem colsA_size (f : Nat → Bool) : (colsA f).size = 16 := by simp [colsA]
theorem colsA_get (f : Nat → Bool) (i : Nat) (h : i < 16) : (colsA f)[i]? = some (.int .u64 ((word f i : Nat) : Int)) := by
  unfold colsA; simp [h]
theorem colsA_set (f g : Nat → Bool) (i n : Nat) (hn : n = word g i) (h : ∀ j, j ≠ i → word g j = word f j) : (colsA f).setIfInBounds i (.int .u64 (n : Int)) = colsA g := by
  unfold colsA
  apply Array.ext
  · simp
  · intro j h1 h2
    simp at h1 h2
    rw [Array.getElem_setIfInBounds]
    · simp only [List.getElem_toArray, List.getElem_map, List.getElem_range]
      by_cases e : i = j
      · subst e; rw [if_pos rfl, hn]
      · rw [if_neg e, h j (Ne.symm e)]
        exact (List.getElem_map _).trans (by rw [List.getElem_range])
    · simpa using h1
theorem colsA_congr {f g : Nat → Bool} (h : ∀ w, w < 1024 → f w = g w) : colsA f = colsA g := by
  unfold colsA
  congr 1
  refine List.map_congr_left fun i hi => ?_
  rw [List.mem_range] at hi
  rw [word_congr (f := f) (g := g) (i := i) fun w hw => h w (by omega)]
/-- Have both a worker? -/
def meetsB (f g : Nat → Bool) : Bool := (List.range 1024).any fun w => f w && g w
theorem meetsB_iff {f g : Nat → Bool} : meetsB f g = true ↔ ∃ w, w < 1024 ∧ f w = true ∧ g w = true := by
  unfold meetsB
  rw [List.any_eq_true]
  constructor
  · rintro ⟨w, hw, h⟩
    rw [Bool.and_eq_true] at h
    exact ⟨w, List.mem_range.1 hw, h⟩
  · rintro ⟨w, hw, h⟩
    exact ⟨w, List.mem_range.2 hw, by rw [Bool.and_eq_true]; exact h⟩
theorem meets_cols (f g : Nat → Bool) : meetsB f g = true ↔ colsA (fun w => f w && g w) ≠ colsA (fun _ => false) := by
  rw [meetsB_iff]
  constructor
  · rintro ⟨w, hw, h1, h2⟩ e
    have e1 := colsA_get (fun w => f w && g w) (w / 64) (by omega)
    rw [e, colsA_get _ _ (by omega), word_zero] at e1
    have e2 : word (fun w => f w && g w) (w / 64) = 0 := by
      injection e1 with e1
      injection e1 with _ e1
      omega
    have := word_eq_zero e2 w rfl
    simp [h1, h2] at this
  · intro h
    refine Classical.byContradiction fun hn => h (colsA_congr fun w hw => ?_)
    cases hh : (f w && g w) with
    | false => rfl
    | true =>
      rw [Bool.and_eq_true] at hh
      exact absurd ⟨w, hw, hh⟩ hn

/-- A block's workers. -/
def inS (s o w : Nat) : Bool := decide (s ≤ w ∧ w < s + 2 ^ o)
end Go.Proofs.Ytnokmbjgfglaoaa
