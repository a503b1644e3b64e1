/- A block may be taken by its place just where it lies in a free block. No program. -/
import Derived.Test.YthmgnfkjkdmdoaaList
import Derived.Test.YthmgnfkjkdmdoaaActs
set_option linter.unusedSimpArgs false
set_option linter.unusedVariables false
namespace Go.Proofs.Ythmgnfkjkdmdoaa
open Bud

def holds (s P : Nat) (b : Blk) : Bool := decide (b.s ≤ s ∧ s + P ≤ b.s + 2 ^ b.o)

theorem mul_le_of {a b m : Nat} (ha : a % m = 0) (hb : b % m = 0) (h : a < b) (hm : 0 < m) : a + m ≤ b := by
  obtain ⟨p, rfl⟩ := Nat.dvd_of_mod_eq_zero ha
  obtain ⟨q, rfl⟩ := Nat.dvd_of_mod_eq_zero hb
  have : p < q := Nat.lt_of_mul_lt_mul_left h
  calc m * p + m = m * (p + 1) := by rw [Nat.mul_add, Nat.mul_one]
    _ ≤ m * q := Nat.mul_le_mul_left _ this

theorem inside_iff {y : Yd} (g : Good y) {L : List Blk} (hL : FreeL y L) {s o : Nat} (ho : o ≤ y.n) (hm : s % 2 ^ o = 0) : (takeAtY y s o).2 = if L.any (holds s (2 ^ o)) = true then 0 else 5 := by
  unfold takeAtY
  cases hr : aroundF y.n y.free s o with
  | some tq =>
    obtain ⟨t, q⟩ := tq
    obtain ⟨h1, h2, h3, h4⟩ := around_in hr
    rw [if_pos]
    · rw [List.any_eq_true]
      refine ⟨⟨t, q⟩, (hL.mem _).2 h3, ?_⟩
      unfold holds
      rw [decide_eq_true_eq]
      have ht := (g.free_in h3).2.1
      have hin := (in_block ht s).1 h4
      refine ⟨hin.1, ?_⟩
      refine mul_le_of hm ?_ hin.2 (pow_pos' o)
      have hd : (2 : Nat) ^ o ∣ 2 ^ q := Nat.pow_dvd_pow 2 h1
      exact Nat.mod_eq_zero_of_dvd (Nat.dvd_add (Nat.dvd_trans hd (Nat.dvd_of_mod_eq_zero ht)) hd)
  | none =>
    rw [if_neg]
    rw [List.any_eq_true]
    rintro ⟨b, hb, hh⟩
    unfold holds at hh
    rw [decide_eq_true_eq] at hh
    have hf := (hL.mem b).1 hb
    obtain ⟨h1, h2, h3, _⟩ := g.free_in hf
    have hpo := pow_pos' o
    have hle : o ≤ b.o := by
      have : (2 : Nat) ^ o ≤ 2 ^ b.o := by omega
      exact (Nat.pow_le_pow_iff_right (by omega)).1 this
    have he := (in_block h2 s).2 ⟨hh.1, by omega⟩
    refine around_none _ o rfl hr b.o hle h1 ?_
    rw [he, aligned _ _ h2]
    exact hf
end Go.Proofs.Ythmgnfkjkdmdoaa
