/- Each worker is in just one taken block, or failed, or in just one free block; no two free blocks make a greater one. No program. -/
import Derived.Test.YthmgnfkjkdmdoaaList
import Derived.Test.YthmgnfkjkdmdoaaFail
set_option linter.unusedSimpArgs false
set_option linter.unusedVariables false
namespace Go.Proofs.Ythmgnfkjkdmdoaa
open Bud

theorem countP_one {α : Type} (p : α → Bool) : ∀ (l : List α), l.Nodup → (∀ a ∈ l, ∀ b ∈ l, p a = true → p b = true → a = b) → ((∃ a ∈ l, p a = true) ∧ l.countP p = 1) ∨ ((∀ a ∈ l, p a = false) ∧ l.countP p = 0) := by
  intro l
  induction l with
  | nil => intro _ _; right; simp
  | cons x l ih =>
    intro hn hu
    obtain ⟨h1, h2⟩ := List.nodup_cons.1 hn
    rcases ih h2 (fun a ha b hb => hu a (List.mem_cons_of_mem _ ha) b (List.mem_cons_of_mem _ hb)) with ⟨⟨a, ha, hp⟩, hc⟩ | ⟨hz, hc⟩
    · left
      have hx : p x = false := by
        cases hx : p x with
        | false => rfl
        | true =>
          have := hu x List.mem_cons_self a (List.mem_cons_of_mem _ ha) hx hp
          subst this
          exact absurd ha h1
      exact ⟨⟨a, List.mem_cons_of_mem _ ha, hp⟩, by rw [List.countP_cons, hx, hc]; rfl⟩
    · cases hx : p x with
      | false => right; exact ⟨fun a ha => (List.mem_cons.1 ha).elim (fun e => e ▸ hx) (hz a), by rw [List.countP_cons, hx, hc]; rfl⟩
      | true => left; exact ⟨⟨x, List.mem_cons_self, hx⟩, by rw [List.countP_cons, hx, hc]; rfl⟩

theorem inc_nodup {α : Type} (k : α → Nat) {l : List α} (h : IncK k l) : l.Nodup := by
  unfold List.Nodup
  exact h.imp fun {a b} hab e => by subst e; exact Nat.lt_irrefl _ hab

/-- In how many of some blocks a worker is. -/
def covers (w : Nat) (b : Blk) : Bool := decide (b.s ≤ w ∧ w < b.s + 2 ^ b.o)
def cnt (l : List Blk) (w : Nat) : Nat := l.countP (covers w)
/-- How often a worker is told as failed, and in no block. -/
def lone (y : Yd) (w v : Nat) : Bool := decide (v = w) && (heldY y.taken (v : Int)).isNone
def bn (y : Yd) (l : List Nat) (w : Nat) : Nat := l.countP (lone y w)

theorem covers_iff {w : Nat} {b : Blk} (h : b.s % 2 ^ b.o = 0) : covers w b = true ↔ b.has w := by
  unfold covers Blk.has
  rw [decide_eq_true_eq, in_block h]

theorem held_none {y : Yd} (g : Good y) (w : Nat) : (heldY y.taken (w : Int)).isNone = true ↔ ∀ b ∈ y.taken, ¬ b.has w := by
  unfold heldY
  rw [Option.isNone_iff_eq_none, List.find?_eq_none]
  constructor
  · exact fun h b hb hw => h b hb ((inB_has g hb w).2 hw)
  · exact fun h b hb hw => h b hb ((inB_has g hb w).1 hw)

theorem whole {y : Yd} (g : Good y) {L : List Blk} (hL : FreeL y L) {w : Nat} (hw : w < 2 ^ y.n) : cnt L w + cnt y.taken w + bn y y.failed w = 1 := by
  have hfree : ∀ b ∈ L, covers w b = true ↔ b.has w := fun b hb => covers_iff (g.free_in ((hL.mem b).1 hb)).2.1
  have htk : ∀ b ∈ y.taken, covers w b = true ↔ b.has w := fun b hb => covers_iff (g.tin b hb).2.1
  have hopen : ∀ b ∈ L, b.has w → y.Open w := fun b hb hh => (g.free_in ((hL.mem b).1 hb)).2.2.2 w hh
  have h1 := countP_one (covers w) L (inc_nodup _ hL.inc) (fun a ha b hb pa pb => by
    have ha' := (hL.mem a).1 ha
    have hb' := (hL.mem b).1 hb
    have ta := (g.canon.mem a.o a.s).1 ha'
    have tb := (g.canon.mem b.o b.s).1 hb'
    have ea : w / 2 ^ a.o = a.s / 2 ^ a.o := (hfree a ha).1 pa
    have eb : w / 2 ^ b.o = b.s / 2 ^ b.o := (hfree b hb).1 pb
    have h3 := ta.2; have h4 := tb.2
    rw [← ea] at h3; rw [← eb] at h4
    have eo := Top.eq h3 h4
    refine g.start ha' hb' ?_
    refine aligned_eq ta.1 (by rw [eo]; exact tb.1) ?_
    rw [← ea, eo, eb])
  have h2 := countP_one (covers w) y.taken (inc_nodup _ g.tinc) (fun a ha b hb pa pb => g.tap a ha b hb w ((htk a ha).1 pa) ((htk b hb).1 pb))
  have h3 := countP_one (lone y w) y.failed (inc_nodup _ g.finc) (fun a ha b hb pa pb => by
    unfold lone at pa pb
    simp only [Bool.and_eq_true, decide_eq_true_eq] at pa pb
    rw [pa.1, pb.1])
  unfold cnt bn
  by_cases ht : ∃ b ∈ y.taken, b.has w
  · obtain ⟨b, hb, hbw⟩ := ht
    have e2 : y.taken.countP (covers w) = 1 := by
      rcases h2 with h | h
      · exact h.2
      · have := h.1 b hb; rw [(htk b hb).2 hbw] at this; simp at this
    have e1 : L.countP (covers w) = 0 := by
      rcases h1 with ⟨⟨a, ha, hp⟩, _⟩ | h
      · exact absurd hbw ((hopen a ha ((hfree a ha).1 hp)).2.2 b hb)
      · exact h.2
    have e3 : y.failed.countP (lone y w) = 0 := by
      rcases h3 with ⟨⟨a, ha, hp⟩, _⟩ | h
      · unfold lone at hp
        simp only [Bool.and_eq_true, decide_eq_true_eq] at hp
        rw [hp.1] at hp
        exact absurd hbw ((held_none g w).1 hp.2 b hb)
      · exact h.2
    omega
  · have ht' : ∀ b ∈ y.taken, ¬ b.has w := fun b hb hh => ht ⟨b, hb, hh⟩
    have e2 : y.taken.countP (covers w) = 0 := by
      rcases h2 with ⟨⟨a, ha, hp⟩, _⟩ | h
      · exact absurd ((htk a ha).1 hp) (ht' a ha)
      · exact h.2
    by_cases hf : w ∈ y.failed
    · have e1 : L.countP (covers w) = 0 := by
        rcases h1 with ⟨⟨a, ha, hp⟩, _⟩ | h
        · exact absurd hf (hopen a ha ((hfree a ha).1 hp)).2.1
        · exact h.2
      have e3 : y.failed.countP (lone y w) = 1 := by
        rcases h3 with h | h
        · exact h.2
        · have := h.1 w hf
          unfold lone at this
          rw [(held_none g w).2 ht'] at this
          simp at this
      omega
    · have ho : y.Open w := ⟨hw, hf, ht'⟩
      obtain ⟨q, _, hq⟩ := top_exists (n := y.n) (U := y.Open) w (y.n - 0) 0 rfl (Nat.zero_le _) (fun v hv => by simp only [Nat.pow_zero, Nat.div_one] at hv; rw [hv]; exact ho)
      have e1 : L.countP (covers w) = 1 := by
        rcases h1 with h | h
        · exact h.2
        · have hm : (⟨w / 2 ^ q * 2 ^ q, q⟩ : Blk) ∈ L := (hL.mem _).2 ((g.canon.mem q _).2 ⟨Nat.mul_mod_left _ _, by rw [at_div]; exact hq⟩)
          have := h.1 _ hm
          rw [(hfree _ hm).2 (by unfold Blk.has; show w / 2 ^ q = w / 2 ^ q * 2 ^ q / 2 ^ q; rw [at_div])] at this
          simp at this
      have e3 : y.failed.countP (lone y w) = 0 := by
        rcases h3 with ⟨⟨a, ha, hp⟩, _⟩ | h
        · unfold lone at hp
          simp only [Bool.and_eq_true, decide_eq_true_eq] at hp
          rw [hp.1] at ha
          exact absurd ha hf
        · exact h.2
      omega

/-- No two free blocks of one order make a greater one. -/
theorem no_pair {y : Yd} (g : Good y) {s o : Nat} (h1 : s ∈ y.free o) (h2 : sib s o ∈ y.free o) : False := by
  obtain ⟨a1, t1⟩ := (g.canon.mem o s).1 h1
  obtain ⟨a2, t2⟩ := (g.canon.mem o _).1 h2
  rcases t1.2.2 with e | hn
  · have z1 := top_zero (n := y.n) g.open_lt (i := s / 2 ^ o) (by rw [← e]; exact t1.2.1)
    have z2 := top_zero (n := y.n) g.open_lt (i := sib s o / 2 ^ o) (by rw [← e]; exact t2.2.1)
    rw [sib_div a1, z1] at z2
    simp at z2
  · refine hn fun w hw => ?_
    rw [div_succ] at hw
    by_cases e : w / 2 ^ o = s / 2 ^ o
    · exact t1.2.1 w e
    · refine t2.2.1 w ?_
      rw [sib_div a1]
      exact (xor_one_iff _ _).2 ⟨hw, e⟩
end Go.Proofs.Ythmgnfkjkdmdoaa
