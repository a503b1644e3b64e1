/- Contract: yard (the law's own: a yard of order five on which some calls were made). -/
import Derived.Test.YthmgnfkjkdmdoaaSmall
import Derived.Deep.LoopGhost
set_option linter.unusedSimpArgs false
set_option linter.unusedVariables false
namespace Go.Proofs.Ythmgnfkjkdmdoaa
open Go Go.RowKit Bud

/-- The yard after some calls. -/
def runY (A : Nat → Int × Int × Int) : Nat → Yd
  | 0 => newY 5
  | k + 1 => (actY (runY A k) (A k).1 (A k).2.1 (A k).2.2).1
theorem run_good (A : Nat → Int × Int × Int) : ∀ k, Good (runY A k)
  | 0 => new_good (by omega)
  | k + 1 => act_good (run_good A k) _ _ _
theorem act_n (y : Yd) (k n s : Int) : (actY y k n s).1.n = y.n := by
  unfold actY takeY takeAtI takeAtY giveY failI failY healI healY
  repeat' split
  all_goals first | rfl | skip
  all_goals first
    | (generalize aroundF _ _ _ _ = r; cases r <;> rfl)
    | (generalize heldY _ _ = r; cases r <;> rfl)
    | (generalize aroundF _ _ _ _ = r; rcases r with _ | ⟨_, _⟩ <;> rfl)
theorem run_n (A : Nat → Int × Int × Int) : ∀ k, (runY A k).n = 5
  | 0 => rfl
  | k + 1 => by rw [runY, act_n, run_n A k]

/-- A slice of acts, read. -/
def ActsAt (w : World) (a : Addr) (n : Nat) (A : Nat → Int × Int × Int) : Prop :=
  ∀ j, j < n → w.cell? (a.add (j * 3)) = some (.int .i64 (A j).1) ∧ w.cell? (a.add (j * 3 + 1)) = some (.int .i64 (A j).2.1) ∧ w.cell? (a.add (j * 3 + 2)) = some (.int .i64 (A j).2.2)

theorem ActsAt.keep {w w' : World} {a : Addr} {n : Nat} {A : Nat → Int × Int × Int} (h : ActsAt w a n A) (hb : Below w.heap.size w w') : ActsAt w' a n A := by
  intro j hj
  obtain ⟨h0, h1, h2⟩ := h j hj
  exact ⟨(hb.cell (World.block_lt_of_cell? w _ h0)).trans h0, (hb.cell (World.block_lt_of_cell? w _ h1)).trans h1, (hb.cell (World.block_lt_of_cell? w _ h2)).trans h2⟩

set_option maxHeartbeats 8000000 in
set_option maxRecDepth 100000 in
theorem yard_calls (w : World) (a : Addr) (n c : Nat) (A : Nat → Int × Int × Int) (hA : ActsAt w a n A) (hn : n ≤ maxLen) :
    Calls Try.prog 7 #[.slice (some a) n c] w fun e w' => ∃ yb cs, e = .returned (.pointer (some ⟨yb, 0, none⟩)) ∧ YardAt w' yb cs (runY A (min n 60)) ∧ (∀ k, foot yb cs k → w.heap.size ≤ k) ∧ Below w.heap.size w w' := by
  have HA := Lib.hid hA
  have hmx : n ≤ 9223372036854775807 := hn
  clear hA hn
  go_enter Try.func7, Try.ntmps7
  go_wp2_with fail
  refine (new_calls 5 w (by omega)).mono ?_
  rintro e w1 ⟨yb, cs1, rfl, hy1, hf1, hb1⟩
  go_wp2_with fail
  go_loopg [5] (60 : Nat) (fun g s5 wr => ∃ (k : Nat) (cs : Array Value), s5 = .int .i64 (k : Int) ∧ k ≤ n ∧ k ≤ 60 ∧ 60 - k ≤ g ∧ YardAt wr yb cs (runY A k) ∧ (∀ k, foot yb cs k → w.heap.size ≤ k) ∧ Below w.heap.size w wr)
  case atStart => exact ⟨0, cs1, rfl, by omega, by omega, by omega, hy1, hf1, hb1⟩
  case round =>
    clear hy1 hf1 hb1
    obtain ⟨k, cs, rfl, hk, hk60, hgk, hy, hf, hb⟩ := hrel
    have HF := Lib.hid hf
    clear hf
    by_cases h1 : k < n
    · have g1 : decide ((k : Int) < (n : Int)) = true := by rw [decide_eq_true_eq]; omega
      by_cases h2 : k < 60
      · have g2 : decide ((k : Int) < 60) = true := by rw [decide_eq_true_eq]; omega
        have i0 : (0 : Int) ≤ (k : Int) := by omega
        have i1 : (k : Int) < (n : Int) := by omega
        obtain ⟨e0, e1, e2⟩ := HA.out k h1
        have hp1 : a.add (k * 3 + 1) = ⟨(a.add (k * 3)).block, (a.add (k * 3)).off + 1, none⟩ := by rw [← Addr.add_add]; rfl
        have hp2 : a.add (k * 3 + 2) = ⟨(a.add (k * 3)).block, (a.add (k * 3)).off + 2, none⟩ := by rw [← Addr.add_add]; rfl
        rw [hp1] at e1
        rw [hp2] at e2
        replace e0 := (hb.cell (World.block_lt_of_cell? w _ e0)).trans e0
        replace e1 := (hb.cell (World.block_lt_of_cell? w _ e1)).trans e1
        replace e2 := (hb.cell (World.block_lt_of_cell? w _ e2)).trans e2
        have hact := act_calls hy (run_good A k) (A k).1 (A k).2.1 (A k).2.2
        have hrn : runY A (k + 1) = (actY (runY A k) (A k).1 (A k).2.1 (A k).2.2).1 := rfl
        rw [← hrn] at hact
        generalize (actY (runY A k) (A k).1 (A k).2.1 (A k).2.2).2.1 = r1 at hact
        generalize (actY (runY A k) (A k).1 (A k).2.1 (A k).2.2).2.2 = r2 at hact
        generalize (A k).1 = x0 at *
        generalize (A k).2.1 = x1 at *
        generalize (A k).2.2 = x2 at *
        have HACT := Lib.hid hact
        clear hp1 hp2 hact hrn
        go_wp2_with fail
        refine HACT.out.mono ?_
        rintro e w2 ⟨rfl, cs2, hy2, hst2⟩
        go_wp2_with fail
        rw [show (k : Int) + 1 = ((k + 1 : Nat) : Int) by omega]
        go_roundg (gk - 1)
        case measure => omega
        case rel =>
          refine ⟨k + 1, cs2, rfl, by omega, by omega, by omega, hy2, fun i hi => ?_, ?_⟩
          · rcases hst2.fresh i hi with h | h
            · exact HF.out i h
            · exact Nat.le_trans hb.size h
          · exact ⟨hst2.keeps.os.trans hb.os, hst2.keeps.tape.trans hb.tape, hst2.keeps.output.trans hb.output, Nat.le_trans hb.size hst2.keeps.size, fun i hi => (hst2.keeps.block i (Nat.lt_of_lt_of_le hi hb.size) (fun hh => by have := HF.out i hh; omega)).trans (hb.block i hi)⟩
      · obtain rfl : k = 60 := by omega
        have g2 : decide ((60 : Int) < (n : Int)) = true := by rw [decide_eq_true_eq]; omega
        have hmin : min n 60 = 60 := Nat.min_eq_right (by omega)
        have HM := Lib.hid hmin
        clear hmin
        go_wp2_with fail
        go_ret
        rw [HM.out]
        exact ⟨yb, cs, rfl, hy, HF.out, hb⟩
    · obtain rfl : k = n := by omega
      have hmin : min k 60 = k := Nat.min_eq_left hk60
      have g1 : decide ((k : Int) < (k : Int)) = false := by rw [decide_eq_false_iff_not]; omega
      have HM := Lib.hid hmin
      clear hmin
      go_wp2_with fail
      go_ret
      rw [HM.out]
      exact ⟨yb, cs, rfl, hy, HF.out, hb⟩

theorem yard_nil (w : World) (A : Nat → Int × Int × Int) :
    Calls Try.prog 7 #[.slice none 0 0] w fun e w' => ∃ yb cs, e = .returned (.pointer (some ⟨yb, 0, none⟩)) ∧ YardAt w' yb cs (runY A (min 0 60)) ∧ (∀ k, foot yb cs k → w.heap.size ≤ k) ∧ Below w.heap.size w w' := by
  go_enter Try.func7, Try.ntmps7
  go_wp2_with fail
  refine (new_calls 5 w (by omega)).mono ?_
  rintro e w1 ⟨yb, cs1, rfl, hy1, hf1, hb1⟩
  have HF := Lib.hid hf1
  clear hf1
  go_wp2_with fail
  go_loopg [5] (60 : Nat) (fun g s5 wr => s5 = .int .i64 0 ∧ wr = w1)
  case atStart => exact ⟨rfl, rfl⟩
  case round =>
    obtain ⟨rfl, rfl⟩ := hrel
    go_wp2_with fail
    go_ret
    exact ⟨yb, cs1, rfl, hy1, HF.out, hb1⟩
end Go.Proofs.Ythmgnfkjkdmdoaa
