/- What the chapter's example comes to. No program. -/
import Derived.Test.YthmgnfkjkdmdoaaList
import Derived.Test.YthmgnfkjkdmdoaaWould
set_option linter.unusedSimpArgs false
set_option linter.unusedVariables false
namespace Go.Proofs.Ythmgnfkjkdmdoaa
open Bud

def ex0 : Yd := newY 3
def ex1 : Yd := ⟨3, splitF ex0.free 0 3 0 1, [⟨0, 1⟩], []⟩
def ex2 : Yd := ⟨3, splitF ex1.free 2 1 2 0, [⟨0, 1⟩, ⟨2, 0⟩], []⟩
def ex3 : Yd := ⟨3, splitF ex2.free 4 2 4 1, [⟨0, 1⟩, ⟨2, 0⟩, ⟨4, 1⟩], []⟩
def ex4 : Yd := ⟨3, splitF ex3.free 6 1 7 0, [⟨0, 1⟩, ⟨2, 0⟩, ⟨4, 1⟩], [7]⟩
def ex5 : Yd := ⟨3, upd ex4.free 1 (insK id 0 (ex4.free 1)), [⟨2, 0⟩, ⟨4, 1⟩], [7]⟩

theorem take1 : takeY ex0 1 = (ex1, 0, 0) := by
  unfold takeY
  rw [if_neg (by decide), show firstF ex0.n ex0.free (1 : Int).toNat = some 3 from (firstF_miss (by decide) rfl).trans ((firstF_miss (by decide) rfl).trans (firstF_hit (by decide) (by decide)))]
  rfl
theorem take2 : takeY ex1 0 = (ex2, 2, 0) := by
  unfold takeY
  rw [if_neg (by decide), show firstF ex1.n ex1.free (0 : Int).toNat = some 1 from (firstF_miss (by decide) rfl).trans (firstF_hit (by decide) (by decide))]
  rfl
theorem take3 : takeY ex2 1 = (ex3, 4, 0) := by
  unfold takeY
  rw [if_neg (by decide), show firstF ex2.n ex2.free (1 : Int).toNat = some 2 from (firstF_miss (by decide) rfl).trans (firstF_hit (by decide) (by decide))]
  rfl
theorem fail4 : failI ex3 7 = (ex4, 0) := by
  unfold failI
  rw [if_pos (by decide)]
  show failY ex3 7 = _
  unfold failY
  rw [if_neg (by decide), show aroundF ex3.n ex3.free 7 0 = some (6, 1) from (aroundF_miss (by decide) (by decide)).trans (aroundF_hit (by decide) (by decide))]
  rfl
theorem give5 : giveY ex4 0 = (ex5, 0) := by
  unfold giveY
  rw [show byS 0 ex4.taken = some ⟨0, 1⟩ from rfl]
  have h1 : openF ex4.n ex4.failed ex4.free 0 1 = ex5.free := by
    rw [openF, if_neg (by decide), layF_stop _ _ _ _ (by decide)]
    rfl
  simp only [h1]
  rfl
theorem fits5 : fitsY ex5 2 = false := by
  unfold fitsY
  rw [show firstF ex5.n ex5.free (2 : Int).toNat = none from (firstF_miss (by decide) rfl).trans ((firstF_miss (by decide) rfl).trans (firstF_end (by decide)))]
  rfl
def ex6f : Nat → List Nat := upd (upd (upd ex5.free 0 [6]) 1 []) 2 [0]
theorem give6 : giveY ex5 2 = (⟨3, layF 3 ex5.free 2 0, [⟨4, 1⟩], [7]⟩, 0) := by
  unfold giveY
  rw [show byS 2 ex5.taken = some ⟨2, 0⟩ from rfl]
  have h1 : openF ex5.n ex5.failed ex5.free 2 0 = layF 3 ex5.free 2 0 := by
    rw [openF, if_neg (by decide)]
    rfl
  simp only [h1]
  rfl
theorem lay6 : layF 3 ex5.free 2 0 2 = [0] := by
  rw [layF_on _ _ _ _ (by decide) (by decide), show min 2 (sib 2 0) = 2 by decide, layF_on _ _ _ _ (by decide) (by decide), show min 2 (sib 2 (0 + 1)) = 0 by decide, layF_stop _ _ _ _ (by decide)]
  rfl
theorem fits6 : fitsY (giveY ex5 2).1 2 = true := by
  rw [give6]
  unfold fitsY
  rw [show firstF 3 (layF 3 ex5.free 2 0) (2 : Int).toNat = some 2 from firstF_hit (by decide) (by rw [show (2 : Int).toNat = 2 from rfl, lay6]; decide)]
  rfl
theorem ex0_good : Good ex0 := new_good (by decide)
theorem ex1_good : Good ex1 := by have := take_good ex0_good 1; rwa [take1] at this
theorem ex2_good : Good ex2 := by have := take_good ex1_good 0; rwa [take2] at this
theorem ex3_good : Good ex3 := by have := take_good ex2_good 1; rwa [take3] at this
theorem ex4_good : Good ex4 := by have := failI_good ex3_good 7; rwa [fail4] at this
theorem ex5_good : Good ex5 := by have := give_good ex4_good 0; rwa [give5] at this

/-- A list is all free blocks, where it holds those of the orders up to n. -/
theorem freeL_of {y : Yd} (g : Good y) {l : List Blk} (hi : IncK Blk.s l) (hn : y.n = 3) (h : ∀ o, o < 4 → ∀ s, s ∈ y.free o ↔ (⟨s, o⟩ : Blk) ∈ l) (hl : ∀ b ∈ l, b.o < 4) : FreeL y l := by
  refine ⟨hi, fun b => ?_⟩
  by_cases ho : b.o < 4
  · exact (h b.o ho b.s).symm
  · constructor
    · intro hb; exact absurd (hl b hb) ho
    · intro hb; have := (g.free_in hb).1; omega
theorem list3 : FreeL ex3 [⟨3, 0⟩, ⟨6, 1⟩] := by
  refine freeL_of ex3_good (by unfold IncK; decide) rfl (fun o ho s => ?_) (by decide)
  match o, ho with
  | 0, _ => show s ∈ [3] ↔ _; simp
  | 1, _ => show s ∈ [6] ↔ _; simp
  | 2, _ => show s ∈ [] ↔ _; simp
  | 3, _ => show s ∈ [] ↔ _; simp
theorem list4 : FreeL ex4 [⟨3, 0⟩, ⟨6, 0⟩] := by
  refine freeL_of ex4_good (by unfold IncK; decide) rfl (fun o ho s => ?_) (by decide)
  match o, ho with
  | 0, _ => show s ∈ [3, 6] ↔ _; simp
  | 1, _ => show s ∈ [] ↔ _; simp
  | 2, _ => show s ∈ [] ↔ _; simp
  | 3, _ => show s ∈ [] ↔ _; simp
theorem list5 : FreeL ex5 [⟨0, 1⟩, ⟨3, 0⟩, ⟨6, 0⟩] := by
  refine freeL_of ex5_good (by unfold IncK; decide) rfl (fun o ho s => ?_) (by decide)
  match o, ho with
  | 0, _ => show s ∈ [3, 6] ↔ _; simp
  | 1, _ => show s ∈ [0] ↔ _; simp
  | 2, _ => show s ∈ [] ↔ _; simp
  | 3, _ => show s ∈ [] ↔ _; simp
end Go.Proofs.Ythmgnfkjkdmdoaa
