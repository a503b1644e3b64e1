/- What Free hands back is one list: by rising starts, all free blocks. -/
import Derived.Test.YthmgnfkjkdmdoaaFree
set_option linter.unusedSimpArgs false
set_option linter.unusedVariables false
namespace Go.Proofs.Ythmgnfkjkdmdoaa
open Go Go.RowKit Bud

theorem mem_mk {o : Nat} {l : List Nat} {b : Blk} : b ∈ mk_ o l ↔ b.o = o ∧ b.s ∈ l := by
  unfold mk_
  rw [List.mem_map]
  constructor
  · rintro ⟨s, hs, rfl⟩; exact ⟨rfl, hs⟩
  · rintro ⟨rfl, hs⟩; exact ⟨b.s, hs, rfl⟩
theorem mem_upTo {f : Nat → List Nat} {k : Nat} {b : Blk} : b ∈ upTo f k ↔ b.o < k ∧ b.s ∈ f b.o := by
  unfold upTo
  rw [List.mem_flatMap]
  constructor
  · rintro ⟨o, ho, hb⟩
    obtain ⟨rfl, hs⟩ := mem_mk.1 hb
    exact ⟨List.mem_range.1 ho, hs⟩
  · rintro ⟨ho, hs⟩
    exact ⟨b.o, List.mem_range.2 ho, mem_mk.2 ⟨rfl, hs⟩⟩

/-- Two free blocks of one start are one. -/
theorem Good.start {y : Yd} (g : Good y) {b c : Blk} (hb : b.s ∈ y.free b.o) (hc : c.s ∈ y.free c.o) (e : b.s = c.s) : b = c := by
  have h1 := ((g.canon.mem b.o b.s).1 hb).2
  have h2 := ((g.canon.mem c.o c.s).1 hc).2
  rw [e] at h1
  have := Top.eq h1 h2
  cases b; cases c
  simp only at *
  subst this; subst e
  rfl

/-- All free blocks, by rising starts. -/
structure FreeL (y : Yd) (l : List Blk) : Prop where
  inc : IncK Blk.s l
  mem : ∀ b, b ∈ l ↔ b.s ∈ y.free b.o

theorem FreeL.unique {y : Yd} {l m : List Blk} (h : FreeL y l) (k : FreeL y m) : l = m := inc_ext Blk.s h.inc k.inc fun x => by rw [h.mem, k.mem]

theorem free_is {y : Yd} (g : Good y) {l : List Blk} (hp : l.Perm (upTo y.free 11)) (hs : SortK Blk.s l) : FreeL y l := by
  have hm : ∀ b, b ∈ l ↔ b.s ∈ y.free b.o := fun b => by
    rw [hp.mem_iff, mem_upTo]
    constructor
    · exact fun h => h.2
    · intro h
      have := (g.free_in h).1
      have := g.le
      exact ⟨by omega, h⟩
  have hne : ∀ k, (upTo y.free k).Pairwise fun a b => a.s ≠ b.s := by
    intro k
    induction k with
    | zero => exact List.Pairwise.nil
    | succ k ih =>
      rw [upTo_succ]
      refine List.pairwise_append.2 ⟨ih, ?_, fun a ha b hb e => ?_⟩
      · unfold mk_
        rw [List.pairwise_map]
        exact (g.canon.inc k).imp fun h => Nat.ne_of_lt h
      · obtain ⟨h1, h2⟩ := mem_upTo.1 ha
        obtain ⟨h3, h4⟩ := mem_mk.1 hb
        have := g.start h2 (by rw [h3]; exact h4) e
        rw [this] at h1
        omega
  have hne2 : l.Pairwise fun a b => a.s ≠ b.s := (hp.pairwise_iff (fun {a b} h e => h e.symm)).2 (hne 11)
  refine ⟨?_, hm⟩
  refine List.pairwise_iff_getElem.2 fun i j hi hj hij => ?_
  have h1 := List.pairwise_iff_getElem.1 hs i j hi hj hij
  have h2 := List.pairwise_iff_getElem.1 hne2 i j hi hj hij
  omega

theorem upTo_len {y : Yd} (g : Good y) : ∀ k, (upTo y.free k).length ≤ k * 1024 := by
  intro k
  induction k with
  | zero => simp [upTo]
  | succ k ih =>
    rw [upTo_succ, List.length_append]
    have := g.len k
    simp only [mk_, List.length_map]
    omega

theorem free_list {w : World} {yb : Nat} {cs : Array Value} {y : Yd} (h : YardAt w yb cs y) (g : Good y) :
    Calls Try.prog 8 #[.pointer (some ⟨yb, 0, none⟩)] w fun e w' => ∃ v' l, e = .returned v' ∧ FreeL y l ∧ OwnB w' v' l ∧ (∀ k, v'.ownBlock = some k → w.heap.size ≤ k) ∧ Below w.heap.size w w' := by
  refine (free_calls h (by have := upTo_len g 11; omega)).mono ?_
  rintro e w' ⟨v', l, rfl, h1, h2, h3, h4, h5⟩
  exact ⟨v', l, rfl, free_is g h1 h2, h3, h4, h5⟩

theorem FreeL.len {y : Yd} (g : Good y) {l : List Blk} (h : FreeL y l) : l.length ≤ 1024 := by
  have := inc_len Blk.s (2 ^ y.n) l 0 h.inc (fun b hb => by
    have := g.free_in ((h.mem b).1 hb)
    have := pow_pos' b.o
    omega)
  have := pow_le_1024 g.le
  omega
end Go.Proofs.Ythmgnfkjkdmdoaa
