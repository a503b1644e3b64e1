/- Contracts: TakeAt, Fail, Heal of whatever numbers; New, Order, Fits, act. -/
import Derived.Test.YthmgnfkjkdmdoaaFail
import Derived.Test.YthmgnfkjkdmdoaaTake
import Derived.Test.YthmgnfkjkdmdoaaGive
set_option linter.unusedSimpArgs false
set_option linter.unusedVariables false
namespace Go.Proofs.Ythmgnfkjkdmdoaa
open Go Go.RowKit Bud

/-- May a block of this place and order be? -/
def mayB (n : Nat) (s o : Int) : Bool := decide (0 ≤ o) && decide (o ≤ (n : Int)) && decide (0 ≤ s) && decide (s < ((2 ^ n : Nat) : Int)) && decide (s.toNat % 2 ^ o.toNat = 0)
def takeAtI (y : Yd) (s o : Int) : Yd × Int := if mayB y.n s o then takeAtY y s.toNat o.toNat else (y, 2)
def failI (y : Yd) (x : Int) : Yd × Int := if isY y x then failY y x.toNat else (y, 2)
def healI (y : Yd) (x : Int) : Yd × Int := if isY y x then healY y x.toNat else (y, 2)

theorem mayB_iff {n : Nat} {s o : Int} : mayB n s o = true ↔ 0 ≤ o ∧ o ≤ (n : Int) ∧ 0 ≤ s ∧ s < ((2 ^ n : Nat) : Int) ∧ s.toNat % 2 ^ o.toNat = 0 := by
  unfold mayB
  simp only [Bool.and_eq_true, decide_eq_true_eq]
  constructor
  · rintro ⟨⟨⟨⟨a, b⟩, c⟩, d⟩, e⟩; exact ⟨a, b, c, d, e⟩
  · rintro ⟨a, b, c, d, e⟩; exact ⟨⟨⟨⟨a, b⟩, c⟩, d⟩, e⟩
theorem isY_iff {y : Yd} {x : Int} : isY y x = true ↔ 0 ≤ x ∧ x < ((2 ^ y.n : Nat) : Int) := by unfold isY; rw [decide_eq_true_eq]

theorem takeAtI_good {y : Yd} (g : Good y) (s o : Int) : Good (takeAtI y s o).1 := by
  unfold takeAtI
  split
  · rename_i h; exact takeAt_good g _ _ (mayB_iff.1 h).2.2.2.2
  · exact g
theorem failI_good {y : Yd} (g : Good y) (x : Int) : Good (failI y x).1 := by
  unfold failI
  split
  · rename_i h; exact fail_good g _ (by have := isY_iff.1 h; omega)
  · exact g
theorem healI_good {y : Yd} (g : Good y) (x : Int) : Good (healI y x).1 := by
  unfold healI
  split
  · exact heal_good g _
  · exact g

theorem takeAt_calls {w : World} {yb : Nat} {cs : Array Value} {y : Yd} (h : YardAt w yb cs y) (g : Good y) (s o : Int) :
    Calls Try.prog 30 #[.pointer (some ⟨yb, 0, none⟩), .agg #[.int .i64 s, .int .i64 o]] w fun e w' => e = .returned (.int .i64 (takeAtI y s o).2) ∧ ∃ cs', YardAt w' yb cs' (takeAtI y s o).1 ∧ Step w yb cs w' cs' := by
  by_cases hm : mayB y.n s o = true
  · have hT : takeAtI y s o = takeAtY y s.toNat o.toNat := by rw [takeAtI, if_pos hm]
    obtain ⟨h1, h2, h3, h4, h5⟩ := mayB_iff.1 hm
    have := takeAt_ok h g s.toNat o.toNat (by omega) (by omega) h5
    rw [Int.toNat_of_nonneg h1, Int.toNat_of_nonneg h3] at this
    rw [hT]
    exact this
  · have hT : takeAtI y s o = (y, 2) := by rw [takeAtI, if_neg hm]
    rw [hT]
    have hfin : ∀ e (w' : World), e = Ending.returned (.int .i64 2) ∧ Below w.heap.size w w' → e = .returned (.int .i64 2) ∧ ∃ cs', YardAt w' yb cs' y ∧ Step w yb cs w' cs' := fun e w' hh => ⟨hh.1, cs, h.below hh.2, Step.of_below hh.2⟩
    by_cases h1 : o < 0
    · exact (takeAt_bad1 h s o h1).mono hfin
    · have g1 : decide (o < 0) = false := by simpa using h1
      by_cases h2 : o > (y.n : Int)
      · exact (takeAt_bad2 h s o g1 h2).mono hfin
      · have g2 : decide (o > (y.n : Int)) = false := by simpa using h2
        by_cases h3 : s < 0
        · exact (takeAt_bad3 h s o g1 g2 h3).mono hfin
        · have g3 : decide (s < 0) = false := by simpa using h3
          by_cases h4 : s ≥ ((2 ^ y.n : Nat) : Int)
          · exact (takeAt_bad4 h s o g1 g2 g3 h4).mono hfin
          · have h5 : s.toNat % 2 ^ o.toNat ≠ 0 := fun h5 => hm (mayB_iff.2 ⟨by omega, by omega, by omega, by omega, h5⟩)
            have := takeAt_bad5 h s.toNat o.toNat (by omega) (by omega) h5
            rw [Int.toNat_of_nonneg (by omega), Int.toNat_of_nonneg (by omega)] at this
            exact this.mono hfin

theorem fail_calls {w : World} {yb : Nat} {cs : Array Value} {y : Yd} (h : YardAt w yb cs y) (g : Good y) (x : Int) :
    Calls Try.prog 13 #[.pointer (some ⟨yb, 0, none⟩), .int .i64 x] w fun e w' => e = .returned (.int .i64 (failI y x).2) ∧ ∃ cs', YardAt w' yb cs' (failI y x).1 ∧ Step w yb cs w' cs' := by
  by_cases hm : isY y x = true
  · rw [show failI y x = failY y x.toNat by rw [failI, if_pos hm]]
    obtain ⟨h1, h2⟩ := isY_iff.1 hm
    have := fail_ok h g x.toNat (by omega)
    rwa [Int.toNat_of_nonneg h1] at this
  · rw [show failI y x = (y, 2) by rw [failI, if_neg hm]]
    refine (fail_bad h x (by simpa using hm)).mono ?_
    rintro e w' ⟨rfl, rfl⟩
    exact ⟨rfl, cs, h, Step.refl _ _ _⟩

theorem heal_calls {w : World} {yb : Nat} {cs : Array Value} {y : Yd} (h : YardAt w yb cs y) (g : Good y) (x : Int) :
    Calls Try.prog 15 #[.pointer (some ⟨yb, 0, none⟩), .int .i64 x] w fun e w' => e = .returned (.int .i64 (healI y x).2) ∧ ∃ cs', YardAt w' yb cs' (healI y x).1 ∧ Step w yb cs w' cs' := by
  by_cases hm : isY y x = true
  · rw [show healI y x = healY y x.toNat by rw [healI, if_pos hm]]
    obtain ⟨h1, h2⟩ := isY_iff.1 hm
    have := heal_ok h g x.toNat (by omega)
    rwa [Int.toNat_of_nonneg h1] at this
  · rw [show healI y x = (y, 2) by rw [healI, if_neg hm]]
    refine (heal_bad h x (by simpa using hm)).mono ?_
    rintro e w' ⟨rfl, rfl⟩
    exact ⟨rfl, cs, h, Step.refl _ _ _⟩

theorem take_calls {w : World} {yb : Nat} {cs : Array Value} {y : Yd} (h : YardAt w yb cs y) (g : Good y) (x : Int) :
    Calls Try.prog 31 #[.pointer (some ⟨yb, 0, none⟩), .int .i64 x] w fun e w' => e = .returned (.tuple #[.int .i64 (takeY y x).2.1, .int .i64 (takeY y x).2.2]) ∧
      ∃ cs', YardAt w' yb cs' (takeY y x).1 ∧ Step w yb cs w' cs' := by
  by_cases hm : x < 0 ∨ (y.n : Int) < x
  · rw [show takeY y x = (y, 0, 2) by rw [takeY, if_pos hm]]
    refine (take_bad h x hm).mono ?_
    rintro e w' ⟨rfl, rfl⟩
    exact ⟨rfl, cs, h, Step.refl _ _ _⟩
  · have := take_ok h g x.toNat (by omega)
    rwa [Int.toNat_of_nonneg (by omega)] at this

/-- What act makes of a yard, and answers. -/
def actY (y : Yd) (kind n start : Int) : Yd × Int × Int :=
  if kind = 0 ∨ kind = 1 ∨ kind = 2 then takeY y n
  else if kind = 3 then ((takeAtI y start n).1, 0, (takeAtI y start n).2)
  else if kind = 4 ∨ kind = 5 then ((giveY y start).1, 0, (giveY y start).2)
  else if kind = 6 then ((failI y start).1, 0, (failI y start).2)
  else ((healI y start).1, 0, (healI y start).2)

theorem act_good {y : Yd} (g : Good y) (kind n start : Int) : Good (actY y kind n start).1 := by
  unfold actY
  split
  · exact take_good g n
  · split
    · exact takeAtI_good g _ _
    · split
      · exact give_good g _
      · split
        · exact failI_good g _
        · exact healI_good g _

theorem three_cells {w : World} {B : Nat} {a b c : Value} {t : TypeId} {fr : Nat × Nat} (h : w.heap[B]? = some (.cells #[a, b, c] t fr)) : w.cell? ⟨B, 0, none⟩ = some a ∧ w.cell? ⟨B, 1, none⟩ = some b ∧ w.cell? ⟨B, 2, none⟩ = some c := by
  simp [World.cell?, h]

set_option maxHeartbeats 8000000 in
set_option maxRecDepth 100000 in
theorem act_calls {w : World} {yb : Nat} {cs : Array Value} {y : Yd} (h : YardAt w yb cs y) (g : Good y) (kind n start : Int) :
    Calls Try.prog 20 #[.pointer (some ⟨yb, 0, none⟩), .agg #[.int .i64 kind, .int .i64 n, .int .i64 start]] w fun e w' => e = .returned (.tuple #[.int .i64 (actY y kind n start).2.1, .int .i64 (actY y kind n start).2.2]) ∧
      ∃ cs', YardAt w' yb cs' (actY y kind n start).1 ∧ Step w yb cs w' cs' := by
  obtain ⟨T, hT⟩ : ∃ T, T = actY y kind n start := ⟨_, rfl⟩
  rw [← hT]
  obtain ⟨W1, hW1⟩ : ∃ W1, W1 = w.alloc (.cells #[.int .i64 kind, .int .i64 n, .int .i64 start] 51) := ⟨_, rfl⟩
  have hy : YardAt W1 yb cs y := by rw [hW1]; exact h.alloc _
  have hst : Step w yb cs W1 cs := by rw [hW1]; exact (Step.refl _ _ _).alloc _
  obtain ⟨B, hB⟩ : ∃ B, B = w.heap.size := ⟨_, rfl⟩
  have hb : W1.heap[B]? = some (.cells #[.int .i64 kind, .int .i64 n, .int .i64 start] 51 (0, 0)) := by rw [hW1, hB]; exact box_heap _ _ _
  obtain ⟨c0, c1, c2⟩ := three_cells hb
  have HW := Lib.hid hW1
  clear hW1 hb
  have ht := take_calls hy g n
  have ha := takeAt_calls hy g start n
  have hg := give_calls hy g start
  have hf := fail_calls hy g start
  have hh := heal_calls hy g start
  unfold actY at hT
  by_cases k0 : kind = 0
  · subst k0
    have hT2 : T = takeY y n := by rw [hT]; simp [*]
    have HT2 := Lib.hid hT2
    clear hT hT2
    go_enter Try.func20, Try.ntmps20
    go_wp2_with fail
    rw [← HW.out, ← hB]
    go_wp2_with fail
    refine ht.mono ?_
    rintro e w2 ⟨rfl, cs2, hy2, hst2⟩
    go_wp2_with fail
    go_ret2
    rw [HT2.out]
    exact ⟨rfl, cs2, hy2, hst.trans hst2⟩
  by_cases k1 : kind = 1
  · subst k1
    have hT2 : T = takeY y n := by rw [hT]; simp [*]
    have HT2 := Lib.hid hT2
    clear hT hT2
    go_enter Try.func20, Try.ntmps20
    go_wp2_with fail
    rw [← HW.out, ← hB]
    go_wp2_with fail
    refine ht.mono ?_
    rintro e w2 ⟨rfl, cs2, hy2, hst2⟩
    go_wp2_with fail
    go_ret2
    rw [HT2.out]
    exact ⟨rfl, cs2, hy2, hst.trans hst2⟩
  by_cases k2 : kind = 2
  · subst k2
    have hT2 : T = takeY y n := by rw [hT]; simp [*]
    have HT2 := Lib.hid hT2
    clear hT hT2
    go_enter Try.func20, Try.ntmps20
    go_wp2_with fail
    rw [← HW.out, ← hB]
    go_wp2_with fail
    refine ht.mono ?_
    rintro e w2 ⟨rfl, cs2, hy2, hst2⟩
    go_wp2_with fail
    go_ret2
    rw [HT2.out]
    exact ⟨rfl, cs2, hy2, hst.trans hst2⟩
  by_cases k3 : kind = 3
  · subst k3
    have hT2 : T = ((takeAtI y start n).1, 0, (takeAtI y start n).2) := by rw [hT]; simp [*]
    have HT2 := Lib.hid hT2
    clear hT hT2
    go_enter Try.func20, Try.ntmps20
    go_wp2_with fail
    rw [← HW.out, ← hB]
    go_wp2_with fail
    refine ha.mono ?_
    rintro e w2 ⟨rfl, cs2, hy2, hst2⟩
    go_wp2_with fail
    go_ret2
    rw [HT2.out]
    exact ⟨rfl, cs2, hy2, hst.trans hst2⟩
  by_cases k4 : kind = 4
  · subst k4
    have hT2 : T = ((giveY y start).1, 0, (giveY y start).2) := by rw [hT]; simp [*]
    have HT2 := Lib.hid hT2
    clear hT hT2
    go_enter Try.func20, Try.ntmps20
    go_wp2_with fail
    rw [← HW.out, ← hB]
    go_wp2_with fail
    refine hg.mono ?_
    rintro e w2 ⟨rfl, cs2, hy2, hst2⟩
    go_wp2_with fail
    go_ret2
    rw [HT2.out]
    exact ⟨rfl, cs2, hy2, hst.trans hst2⟩
  by_cases k5 : kind = 5
  · subst k5
    have hT2 : T = ((giveY y start).1, 0, (giveY y start).2) := by rw [hT]; simp [*]
    have HT2 := Lib.hid hT2
    clear hT hT2
    go_enter Try.func20, Try.ntmps20
    go_wp2_with fail
    rw [← HW.out, ← hB]
    go_wp2_with fail
    refine hg.mono ?_
    rintro e w2 ⟨rfl, cs2, hy2, hst2⟩
    go_wp2_with fail
    go_ret2
    rw [HT2.out]
    exact ⟨rfl, cs2, hy2, hst.trans hst2⟩
  by_cases k6 : kind = 6
  · subst k6
    have hT2 : T = ((failI y start).1, 0, (failI y start).2) := by rw [hT]; simp [*]
    have HT2 := Lib.hid hT2
    clear hT hT2
    go_enter Try.func20, Try.ntmps20
    go_wp2_with fail
    rw [← HW.out, ← hB]
    go_wp2_with fail
    refine hf.mono ?_
    rintro e w2 ⟨rfl, cs2, hy2, hst2⟩
    go_wp2_with fail
    go_ret2
    rw [HT2.out]
    exact ⟨rfl, cs2, hy2, hst.trans hst2⟩
  have hT2 : T = ((healI y start).1, 0, (healI y start).2) := by rw [hT]; simp [*]
  have HT2 := Lib.hid hT2
  clear hT hT2
  go_enter Try.func20, Try.ntmps20
  go_wp2_with fail
  rw [← HW.out, ← hB]
  go_wp2_with fail
  refine hh.mono ?_
  rintro e w2 ⟨rfl, cs2, hy2, hst2⟩
  go_wp2_with fail
  go_ret2
  rw [HT2.out]
  exact ⟨rfl, cs2, hy2, hst.trans hst2⟩
end Go.Proofs.Ythmgnfkjkdmdoaa
