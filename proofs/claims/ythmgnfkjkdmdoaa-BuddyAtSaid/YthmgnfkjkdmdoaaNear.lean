/- A yard of which some workers more have failed; healed, it is as it was. No program. -/
import Derived.Test.YthmgnfkjkdmdoaaList
set_option linter.unusedSimpArgs false
set_option linter.unusedVariables false
namespace Go.Proofs.Ythmgnfkjkdmdoaa
open Bud

structure Near (y0 y : Yd) (S : List Nat) : Prop where
  n : y.n = y0.n
  taken : y.taken = y0.taken
  failed : ∀ v, v ∈ y.failed ↔ v ∈ y0.failed ∨ v ∈ S
  nodup : S.Nodup
  apart : ∀ v ∈ S, v ∉ y0.failed
  inn : ∀ v ∈ S, v < 2 ^ y0.n

theorem Near.refl (y : Yd) : Near y y [] := ⟨rfl, rfl, fun v => by simp, List.nodup_nil, fun v h => absurd h List.not_mem_nil, fun v h => absurd h List.not_mem_nil⟩

theorem Near.done {y0 y : Yd} (g0 : Good y0) (g : Good y) (h : Near y0 y []) : y = y0 := by
  have hf : y.failed = y0.failed := inc_ext id g.finc g0.finc fun v => by rw [h.failed]; simp
  have hc : y.free = y0.free := by
    have h1 := g.canon
    rw [h.n] at h1
    refine h1.unique g0.canon fun w => ?_
    unfold Yd.Open
    rw [h.n, h.taken, hf]
  cases y; cases y0
  obtain ⟨h1, h2, _⟩ := h
  simp only at *
  rw [h1, h2, hf, hc]

theorem fail_taken (y : Yd) (k : Nat) : (failY y k).1.taken = y.taken ∧ (failY y k).1.n = y.n := by
  unfold failY
  split
  · exact ⟨rfl, rfl⟩
  · generalize aroundF _ _ _ _ = r
    cases r <;> exact ⟨rfl, rfl⟩
theorem fail_failed (y : Yd) (k : Nat) (h : k ∉ y.failed) : (failY y k).1.failed = insK id k y.failed ∧ (failY y k).2 = 0 := by
  unfold failY
  rw [if_neg h]
  generalize aroundF _ _ _ _ = r
  cases r <;> exact ⟨rfl, rfl⟩
theorem heal_taken (y : Yd) (k : Nat) : (healY y k).1.taken = y.taken ∧ (healY y k).1.n = y.n := by
  unfold healY
  split
  · generalize heldY _ _ = r
    cases r <;> exact ⟨rfl, rfl⟩
  · exact ⟨rfl, rfl⟩
theorem heal_failed (y : Yd) (k : Nat) (h : k ∈ y.failed) : (healY y k).1.failed = delK id k y.failed ∧ (healY y k).2 = 0 := by
  unfold healY
  rw [if_pos h]
  generalize heldY _ _ = r
  cases r <;> exact ⟨rfl, rfl⟩

theorem failI_cases {y : Yd} (x : Int) : ((failI y x).1 = y ∧ (failI y x).2 ≠ 0) ∨ ∃ k : Nat, x = (k : Int) ∧ k < 2 ^ y.n ∧ k ∉ y.failed ∧ failI y x = failY y k ∧ (failI y x).2 = 0 := by
  unfold failI
  by_cases h : isY y x = true
  · rw [if_pos h]
    obtain ⟨h1, h2⟩ := isY_iff.1 h
    by_cases hm : x.toNat ∈ y.failed
    · left
      unfold failY
      rw [if_pos hm]
      exact ⟨rfl, fun e => by simp at e⟩
    · exact .inr ⟨x.toNat, by omega, by omega, hm, rfl, (fail_failed y _ hm).2⟩
  · rw [if_neg h]
    exact .inl ⟨rfl, fun e => by simp at e⟩

/-- A worker more has failed. -/
theorem Near.fail {y0 y : Yd} {S : List Nat} (h : Near y0 y S) {k : Nat} (hk : k < 2 ^ y.n) (hn : k ∉ y.failed) : Near y0 (failY y k).1 (S ++ [k]) := by
  obtain ⟨h1, h2⟩ := fail_taken y k
  have hk2 : k ∉ y0.failed ∧ k ∉ S := by
    rw [h.failed] at hn
    exact ⟨fun e => hn (.inl e), fun e => hn (.inr e)⟩
  refine ⟨h2.trans h.n, h1.trans h.taken, fun v => ?_, ?_, fun v hv => ?_, fun v hv => ?_⟩
  · rw [(fail_failed y k hn).1, mem_insK, h.failed, List.mem_append, List.mem_singleton]
    constructor
    · rintro (rfl | h | h)
      · exact .inr (.inr rfl)
      · exact .inl h
      · exact .inr (.inl h)
    · rintro (h | h | rfl)
      · exact .inr (.inl h)
      · exact .inr (.inr h)
      · exact .inl rfl
  · rw [List.nodup_append]
    refine ⟨h.nodup, List.pairwise_singleton _ _, fun a ha b hb e => ?_⟩
    rw [List.mem_singleton] at hb
    subst hb; subst e
    exact hk2.2 ha
  · rw [List.mem_append, List.mem_singleton] at hv
    rcases hv with hv | rfl
    · exact h.apart v hv
    · exact hk2.1
  · rw [List.mem_append, List.mem_singleton] at hv
    rcases hv with hv | rfl
    · exact h.inn v hv
    · rw [← h.n]; exact hk

/-- The first of them comes back. -/
theorem Near.heal {y0 y : Yd} {S : List Nat} {k : Nat} (g : Good y) (h : Near y0 y (k :: S)) : Near y0 (healY y k).1 S := by
  obtain ⟨h1, h2⟩ := heal_taken y k
  have hm : k ∈ y.failed := (h.failed k).2 (.inr List.mem_cons_self)
  have hnd := List.nodup_cons.1 h.nodup
  refine ⟨h2.trans h.n, h1.trans h.taken, fun v => ?_, hnd.2, fun v hv => h.apart v (List.mem_cons_of_mem _ hv), fun v hv => h.inn v (List.mem_cons_of_mem _ hv)⟩
  rw [(heal_failed y k hm).1, show v ∈ delK id k y.failed ↔ v ∈ y.failed ∧ id v ≠ k from mem_delK id g.finc hm rfl, h.failed, List.mem_cons]
  constructor
  · rintro ⟨h | rfl | h, hne⟩
    · exact .inl h
    · exact absurd rfl hne
    · exact .inr h
  · rintro (h3 | h3)
    · exact ⟨.inl h3, fun e => h.apart k List.mem_cons_self (by rw [← show v = k from e]; exact h3)⟩
    · exact ⟨.inr (.inr h3), fun e => hnd.1 (by rw [← show v = k from e]; exact h3)⟩

/-- A failed worker lies in no free block. -/
theorem Good.failed_not_free {y : Yd} (g : Good y) {k : Nat} (hk : k ∈ y.failed) {l : List Blk} (h : FreeL y l) {b : Blk} (hb : b ∈ l) : ¬ (b.s ≤ k ∧ k < b.s + 2 ^ b.o) := by
  intro hh
  obtain ⟨h1, h2, h3, h4⟩ := g.free_in ((h.mem b).1 hb)
  exact (h4 k ((in_block h2 k).2 hh)).2.1 hk
end Go.Proofs.Ythmgnfkjkdmdoaa
