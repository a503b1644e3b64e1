/- Contract: TakeAt. -/
import Derived.Test.YthmgnfkjkdmdoaaModel
import Derived.Test.YthmgnfkjkdmdoaaHold
import Derived.Test.YthmgnfkjkdmdoaaSplit
import Derived.Test.YthmgnfkjkdmdoaaAround
set_option linter.unusedSimpArgs false
set_option linter.unusedVariables false
namespace Go.Proofs.Ythmgnfkjkdmdoaa
open Go Go.RowKit Bud

set_option maxHeartbeats 4000000 in
set_option maxRecDepth 100000 in
theorem takeAt_bad1 {w : World} {yb : Nat} {cs : Array Value} {y : Yd} (h : YardAt w yb cs y) (x z : Int) (hx : z < 0) :
    Calls Try.prog 30 #[.pointer (some ⟨yb, 0, none⟩), .agg #[.int .i64 x, .int .i64 z]] w fun e w' => e = .returned (.int .i64 2) ∧ Below w.heap.size w w' := by
  have q1 : w.cell? ⟨yb, 0, none⟩ = some (.int .i64 (y.n : Int)) := h.order_cell
  obtain ⟨B, hB⟩ : ∃ B, B = w.heap.size := ⟨_, rfl⟩
  obtain ⟨W1, hW1⟩ : ∃ W1, W1 = w.alloc (.cells #[.int .i64 x, .int .i64 z] 31) := ⟨_, rfl⟩
  have hb : W1.heap[B]? = some (.cells #[.int .i64 x, .int .i64 z] 31 (0, 0)) := by rw [hW1, hB]; exact box_heap _ _ _
  have hbl : Below w.heap.size w W1 := by rw [hW1]; exact below_alloc' _ _
  have q0 : W1.cell? ⟨yb, 0, none⟩ = some (.int .i64 (y.n : Int)) := (hbl.cell (p := ⟨yb, 0, none⟩) h.lt).trans q1
  obtain ⟨c0, c1⟩ := two_cells hb
  have HW := Lib.hid hW1
  have HB := Lib.hid hB
  have HBL := Lib.hid hbl
  clear hW1 hbl q1 hB
  obtain ⟨N, hN⟩ : ∃ N, N = 2 ^ y.n := ⟨_, rfl⟩
  have hNl : N ≤ 1024 := by rw [hN]; exact pow_le_1024 h.le
  have hszn : ∀ W, Calls Try.prog 54 #[.int .i64 (y.n : Int)] W fun e w' => e = .returned (.int .i64 (N : Int)) ∧ w' = W := fun W => by rw [hN]; exact size_calls y.n (by have := h.le; omega) W
  have HN := Lib.hid hN
  clear hN
  go_enter Try.func30, Try.ntmps30
  go_wp2_with fail
  rw [← HW.out, ← HB.out]
  refine Thr.drawn [(0, false), (1, false), (2, false), (3, false), (4, false), (5, false), (6, false), (7, false), (8, false), (9, false), (10, false), (11, false), (12, false), (13, false), (14, false), (15, false), (16, false), (17, false), (18, false), (19, false), (20, false), (21, false), (22, false), (23, false), (24, true), (25, false), (26, false), (27, false), (28, false), (29, false), (30, false), (31, false), (32, true), (33, false), (34, false), (35, false), (36, false)] 37
    (fun w' => w'.cell? ⟨B, 0, none⟩ = some (.int .i64 x) ∧ w'.cell? ⟨B, 1, none⟩ = some (.int .i64 z) ∧ w'.cell? ⟨yb, 0, none⟩ = some (.int .i64 (y.n : Int))) (by kernel_rfl) (by kernel_rfl) (fun c a w d v h => by cases d <;> exact h) ⟨c0, c1, q0⟩ ?_
  simp only [Thr.pick, Array.reduceGetElem?]
  iterate 4
    apply Thr.read rfl
    · intro w' hS
      go_simp
      (repeat rw [if_pos (by omega)])
      try with_reducible rfl
    simp only [Act.put, List.setIfInBounds_toArray, List.set_cons_zero, List.set_cons_succ]
  iterate 7
    apply Thr.skipG rfl
    simp only [Act.put, List.setIfInBounds_toArray, List.set_cons_zero, List.set_cons_succ]
  iterate 2
    apply Thr.read rfl
    · intro w' hS
      go_simp
      (repeat rw [if_pos (by omega)])
      try with_reducible rfl
    simp only [Act.put, List.setIfInBounds_toArray, List.set_cons_zero, List.set_cons_succ]
  iterate 3
    apply Thr.skipG rfl
    simp only [Act.put, List.setIfInBounds_toArray, List.set_cons_zero, List.set_cons_succ]
  iterate 2
    apply Thr.read rfl
    · intro w' hS
      go_simp
      (repeat rw [if_pos (by omega)])
      try with_reducible rfl
    simp only [Act.put, List.setIfInBounds_toArray, List.set_cons_zero, List.set_cons_succ]
  iterate 6
    apply Thr.skipG rfl
    simp only [Act.put, List.setIfInBounds_toArray, List.set_cons_zero, List.set_cons_succ]
  refine Thr.skipA rfl ⟨c0, c1, q0⟩ ?_
  simp only [Act.put, List.setIfInBounds_toArray, List.set_cons_zero, List.set_cons_succ]
  iterate 1
    apply Thr.skipG rfl
    simp only [Act.put, List.setIfInBounds_toArray, List.set_cons_zero, List.set_cons_succ]
  iterate 2
    apply Thr.read rfl
    · intro w' hS
      go_simp
      (repeat rw [if_pos (by omega)])
      try with_reducible rfl
    simp only [Act.put, List.setIfInBounds_toArray, List.set_cons_zero, List.set_cons_succ]
  iterate 4
    apply Thr.skipG rfl
    simp only [Act.put, List.setIfInBounds_toArray, List.set_cons_zero, List.set_cons_succ]
  refine Thr.skipA rfl ⟨c0, c1, q0⟩ ?_
  simp only [Act.put, List.setIfInBounds_toArray, List.set_cons_zero, List.set_cons_succ]
  iterate 2
    apply Thr.skipG rfl
    simp only [Act.put, List.setIfInBounds_toArray, List.set_cons_zero, List.set_cons_succ]
  iterate 2
    apply Thr.read rfl
    · intro w' hS
      go_simp
      (repeat rw [if_pos (by omega)])
      try with_reducible rfl
    simp only [Act.put, List.setIfInBounds_toArray, List.set_cons_zero, List.set_cons_succ]
  refine Thr.done ?_
  go_wp2_with fail
  go_ret
  exact ⟨rfl, HBL.out.drew⟩

set_option maxHeartbeats 4000000 in
set_option maxRecDepth 100000 in
theorem takeAt_bad2 {w : World} {yb : Nat} {cs : Array Value} {y : Yd} (h : YardAt w yb cs y) (x z : Int) (h1 : decide (z < 0) = false) (hx : z > (y.n : Int)) :
    Calls Try.prog 30 #[.pointer (some ⟨yb, 0, none⟩), .agg #[.int .i64 x, .int .i64 z]] w fun e w' => e = .returned (.int .i64 2) ∧ Below w.heap.size w w' := by
  have q1 : w.cell? ⟨yb, 0, none⟩ = some (.int .i64 (y.n : Int)) := h.order_cell
  obtain ⟨B, hB⟩ : ∃ B, B = w.heap.size := ⟨_, rfl⟩
  obtain ⟨W1, hW1⟩ : ∃ W1, W1 = w.alloc (.cells #[.int .i64 x, .int .i64 z] 31) := ⟨_, rfl⟩
  have hb : W1.heap[B]? = some (.cells #[.int .i64 x, .int .i64 z] 31 (0, 0)) := by rw [hW1, hB]; exact box_heap _ _ _
  have hbl : Below w.heap.size w W1 := by rw [hW1]; exact below_alloc' _ _
  have q0 : W1.cell? ⟨yb, 0, none⟩ = some (.int .i64 (y.n : Int)) := (hbl.cell (p := ⟨yb, 0, none⟩) h.lt).trans q1
  obtain ⟨c0, c1⟩ := two_cells hb
  have HW := Lib.hid hW1
  have HB := Lib.hid hB
  have HBL := Lib.hid hbl
  clear hW1 hbl q1 hB
  obtain ⟨N, hN⟩ : ∃ N, N = 2 ^ y.n := ⟨_, rfl⟩
  have hNl : N ≤ 1024 := by rw [hN]; exact pow_le_1024 h.le
  have hszn : ∀ W, Calls Try.prog 54 #[.int .i64 (y.n : Int)] W fun e w' => e = .returned (.int .i64 (N : Int)) ∧ w' = W := fun W => by rw [hN]; exact size_calls y.n (by have := h.le; omega) W
  have HN := Lib.hid hN
  clear hN
  go_enter Try.func30, Try.ntmps30
  go_wp2_with fail
  rw [← HW.out, ← HB.out]
  refine Thr.drawn [(0, false), (1, false), (2, false), (3, false), (4, false), (5, false), (6, false), (7, false), (8, false), (9, false), (10, false), (11, false), (12, false), (13, false), (14, false), (15, false), (16, false), (17, false), (18, false), (19, false), (20, false), (21, false), (22, false), (23, false), (24, true), (25, false), (26, false), (27, false), (28, false), (29, false), (30, false), (31, false), (32, true), (33, false), (34, false), (35, false), (36, false)] 37
    (fun w' => w'.cell? ⟨B, 0, none⟩ = some (.int .i64 x) ∧ w'.cell? ⟨B, 1, none⟩ = some (.int .i64 z) ∧ w'.cell? ⟨yb, 0, none⟩ = some (.int .i64 (y.n : Int))) (by kernel_rfl) (by kernel_rfl) (fun c a w d v h => by cases d <;> exact h) ⟨c0, c1, q0⟩ ?_
  simp only [Thr.pick, Array.reduceGetElem?]
  iterate 4
    apply Thr.read rfl
    · intro w' hS
      go_simp
      (repeat rw [if_pos (by omega)])
      try with_reducible rfl
    simp only [Act.put, List.setIfInBounds_toArray, List.set_cons_zero, List.set_cons_succ]
  iterate 7
    apply Thr.readG rfl
    · intro w' hS
      go_simp
      (repeat rw [if_pos (by omega)])
      try with_reducible rfl
    simp only [Act.put, List.setIfInBounds_toArray, List.set_cons_zero, List.set_cons_succ]
  iterate 2
    apply Thr.read rfl
    · intro w' hS
      go_simp
      (repeat rw [if_pos (by omega)])
      try with_reducible rfl
    simp only [Act.put, List.setIfInBounds_toArray, List.set_cons_zero, List.set_cons_succ]
  iterate 3
    apply Thr.skipG rfl
    simp only [Act.put, List.setIfInBounds_toArray, List.set_cons_zero, List.set_cons_succ]
  iterate 2
    apply Thr.read rfl
    · intro w' hS
      go_simp
      (repeat rw [if_pos (by omega)])
      try with_reducible rfl
    simp only [Act.put, List.setIfInBounds_toArray, List.set_cons_zero, List.set_cons_succ]
  iterate 6
    apply Thr.skipG rfl
    simp only [Act.put, List.setIfInBounds_toArray, List.set_cons_zero, List.set_cons_succ]
  refine Thr.skipA rfl ⟨c0, c1, q0⟩ ?_
  simp only [Act.put, List.setIfInBounds_toArray, List.set_cons_zero, List.set_cons_succ]
  iterate 1
    apply Thr.skipG rfl
    simp only [Act.put, List.setIfInBounds_toArray, List.set_cons_zero, List.set_cons_succ]
  iterate 2
    apply Thr.read rfl
    · intro w' hS
      go_simp
      (repeat rw [if_pos (by omega)])
      try with_reducible rfl
    simp only [Act.put, List.setIfInBounds_toArray, List.set_cons_zero, List.set_cons_succ]
  iterate 4
    apply Thr.skipG rfl
    simp only [Act.put, List.setIfInBounds_toArray, List.set_cons_zero, List.set_cons_succ]
  refine Thr.skipA rfl ⟨c0, c1, q0⟩ ?_
  simp only [Act.put, List.setIfInBounds_toArray, List.set_cons_zero, List.set_cons_succ]
  iterate 2
    apply Thr.skipG rfl
    simp only [Act.put, List.setIfInBounds_toArray, List.set_cons_zero, List.set_cons_succ]
  iterate 2
    apply Thr.read rfl
    · intro w' hS
      go_simp
      (repeat rw [if_pos (by omega)])
      try with_reducible rfl
    simp only [Act.put, List.setIfInBounds_toArray, List.set_cons_zero, List.set_cons_succ]
  refine Thr.done ?_
  go_wp2_with fail
  go_ret
  exact ⟨rfl, HBL.out.drew⟩

set_option maxHeartbeats 4000000 in
set_option maxRecDepth 100000 in
theorem takeAt_bad3 {w : World} {yb : Nat} {cs : Array Value} {y : Yd} (h : YardAt w yb cs y) (x z : Int) (h1 : decide (z < 0) = false) (h2 : decide (z > (y.n : Int)) = false) (hx : x < 0) :
    Calls Try.prog 30 #[.pointer (some ⟨yb, 0, none⟩), .agg #[.int .i64 x, .int .i64 z]] w fun e w' => e = .returned (.int .i64 2) ∧ Below w.heap.size w w' := by
  have q1 : w.cell? ⟨yb, 0, none⟩ = some (.int .i64 (y.n : Int)) := h.order_cell
  obtain ⟨B, hB⟩ : ∃ B, B = w.heap.size := ⟨_, rfl⟩
  obtain ⟨W1, hW1⟩ : ∃ W1, W1 = w.alloc (.cells #[.int .i64 x, .int .i64 z] 31) := ⟨_, rfl⟩
  have hb : W1.heap[B]? = some (.cells #[.int .i64 x, .int .i64 z] 31 (0, 0)) := by rw [hW1, hB]; exact box_heap _ _ _
  have hbl : Below w.heap.size w W1 := by rw [hW1]; exact below_alloc' _ _
  have q0 : W1.cell? ⟨yb, 0, none⟩ = some (.int .i64 (y.n : Int)) := (hbl.cell (p := ⟨yb, 0, none⟩) h.lt).trans q1
  obtain ⟨c0, c1⟩ := two_cells hb
  have HW := Lib.hid hW1
  have HB := Lib.hid hB
  have HBL := Lib.hid hbl
  clear hW1 hbl q1 hB
  obtain ⟨N, hN⟩ : ∃ N, N = 2 ^ y.n := ⟨_, rfl⟩
  have hNl : N ≤ 1024 := by rw [hN]; exact pow_le_1024 h.le
  have hszn : ∀ W, Calls Try.prog 54 #[.int .i64 (y.n : Int)] W fun e w' => e = .returned (.int .i64 (N : Int)) ∧ w' = W := fun W => by rw [hN]; exact size_calls y.n (by have := h.le; omega) W
  have HN := Lib.hid hN
  clear hN
  go_enter Try.func30, Try.ntmps30
  go_wp2_with fail
  rw [← HW.out, ← HB.out]
  refine Thr.drawn [(0, false), (1, false), (2, false), (3, false), (4, false), (5, false), (6, false), (7, false), (8, false), (9, false), (10, false), (11, false), (12, false), (13, false), (14, false), (15, false), (16, false), (17, false), (18, false), (19, false), (20, false), (21, false), (22, false), (23, false), (24, true), (25, false), (26, false), (27, false), (28, false), (29, false), (30, false), (31, false), (32, true), (33, false), (34, false), (35, false), (36, false)] 37
    (fun w' => w'.cell? ⟨B, 0, none⟩ = some (.int .i64 x) ∧ w'.cell? ⟨B, 1, none⟩ = some (.int .i64 z) ∧ w'.cell? ⟨yb, 0, none⟩ = some (.int .i64 (y.n : Int))) (by kernel_rfl) (by kernel_rfl) (fun c a w d v h => by cases d <;> exact h) ⟨c0, c1, q0⟩ ?_
  simp only [Thr.pick, Array.reduceGetElem?]
  iterate 4
    apply Thr.read rfl
    · intro w' hS
      go_simp
      (repeat rw [if_pos (by omega)])
      try with_reducible rfl
    simp only [Act.put, List.setIfInBounds_toArray, List.set_cons_zero, List.set_cons_succ]
  iterate 7
    apply Thr.readG rfl
    · intro w' hS
      go_simp
      (repeat rw [if_pos (by omega)])
      try with_reducible rfl
    simp only [Act.put, List.setIfInBounds_toArray, List.set_cons_zero, List.set_cons_succ]
  iterate 2
    apply Thr.read rfl
    · intro w' hS
      go_simp
      (repeat rw [if_pos (by omega)])
      try with_reducible rfl
    simp only [Act.put, List.setIfInBounds_toArray, List.set_cons_zero, List.set_cons_succ]
  iterate 3
    apply Thr.readG rfl
    · intro w' hS
      go_simp
      (repeat rw [if_pos (by omega)])
      try with_reducible rfl
    simp only [Act.put, List.setIfInBounds_toArray, List.set_cons_zero, List.set_cons_succ]
  iterate 2
    apply Thr.read rfl
    · intro w' hS
      go_simp
      (repeat rw [if_pos (by omega)])
      try with_reducible rfl
    simp only [Act.put, List.setIfInBounds_toArray, List.set_cons_zero, List.set_cons_succ]
  iterate 6
    apply Thr.skipG rfl
    simp only [Act.put, List.setIfInBounds_toArray, List.set_cons_zero, List.set_cons_succ]
  refine Thr.skipA rfl ⟨c0, c1, q0⟩ ?_
  simp only [Act.put, List.setIfInBounds_toArray, List.set_cons_zero, List.set_cons_succ]
  iterate 1
    apply Thr.skipG rfl
    simp only [Act.put, List.setIfInBounds_toArray, List.set_cons_zero, List.set_cons_succ]
  iterate 2
    apply Thr.read rfl
    · intro w' hS
      go_simp
      (repeat rw [if_pos (by omega)])
      try with_reducible rfl
    simp only [Act.put, List.setIfInBounds_toArray, List.set_cons_zero, List.set_cons_succ]
  iterate 4
    apply Thr.skipG rfl
    simp only [Act.put, List.setIfInBounds_toArray, List.set_cons_zero, List.set_cons_succ]
  refine Thr.skipA rfl ⟨c0, c1, q0⟩ ?_
  simp only [Act.put, List.setIfInBounds_toArray, List.set_cons_zero, List.set_cons_succ]
  iterate 2
    apply Thr.skipG rfl
    simp only [Act.put, List.setIfInBounds_toArray, List.set_cons_zero, List.set_cons_succ]
  iterate 2
    apply Thr.read rfl
    · intro w' hS
      go_simp
      (repeat rw [if_pos (by omega)])
      try with_reducible rfl
    simp only [Act.put, List.setIfInBounds_toArray, List.set_cons_zero, List.set_cons_succ]
  refine Thr.done ?_
  go_wp2_with fail
  go_ret
  exact ⟨rfl, HBL.out.drew⟩

set_option maxHeartbeats 4000000 in
set_option maxRecDepth 100000 in
theorem takeAt_bad4 {w : World} {yb : Nat} {cs : Array Value} {y : Yd} (h : YardAt w yb cs y) (x z : Int) (h1 : decide (z < 0) = false) (h2 : decide (z > (y.n : Int)) = false) (h3 : decide (x < 0) = false) (hx : x ≥ ((2 ^ y.n : Nat) : Int)) :
    Calls Try.prog 30 #[.pointer (some ⟨yb, 0, none⟩), .agg #[.int .i64 x, .int .i64 z]] w fun e w' => e = .returned (.int .i64 2) ∧ Below w.heap.size w w' := by
  have q1 : w.cell? ⟨yb, 0, none⟩ = some (.int .i64 (y.n : Int)) := h.order_cell
  obtain ⟨B, hB⟩ : ∃ B, B = w.heap.size := ⟨_, rfl⟩
  obtain ⟨W1, hW1⟩ : ∃ W1, W1 = w.alloc (.cells #[.int .i64 x, .int .i64 z] 31) := ⟨_, rfl⟩
  have hb : W1.heap[B]? = some (.cells #[.int .i64 x, .int .i64 z] 31 (0, 0)) := by rw [hW1, hB]; exact box_heap _ _ _
  have hbl : Below w.heap.size w W1 := by rw [hW1]; exact below_alloc' _ _
  have q0 : W1.cell? ⟨yb, 0, none⟩ = some (.int .i64 (y.n : Int)) := (hbl.cell (p := ⟨yb, 0, none⟩) h.lt).trans q1
  obtain ⟨c0, c1⟩ := two_cells hb
  have HW := Lib.hid hW1
  have HB := Lib.hid hB
  have HBL := Lib.hid hbl
  clear hW1 hbl q1 hB
  obtain ⟨N, hN⟩ : ∃ N, N = 2 ^ y.n := ⟨_, rfl⟩
  have hNl : N ≤ 1024 := by rw [hN]; exact pow_le_1024 h.le
  have hszn : ∀ W, Calls Try.prog 54 #[.int .i64 (y.n : Int)] W fun e w' => e = .returned (.int .i64 (N : Int)) ∧ w' = W := fun W => by rw [hN]; exact size_calls y.n (by have := h.le; omega) W
  have HN := Lib.hid hN
  rw [← hN] at hx
  clear hN
  go_enter Try.func30, Try.ntmps30
  go_wp2_with fail
  rw [← HW.out, ← HB.out]
  refine Thr.drawn [(0, false), (1, false), (2, false), (3, false), (4, false), (5, false), (6, false), (7, false), (8, false), (9, false), (10, false), (11, false), (12, false), (13, false), (14, false), (15, false), (16, false), (17, false), (18, false), (19, false), (20, false), (21, false), (22, false), (23, false), (24, true), (25, false), (26, false), (27, false), (28, false), (29, false), (30, false), (31, false), (32, true), (33, false), (34, false), (35, false), (36, false)] 37
    (fun w' => w'.cell? ⟨B, 0, none⟩ = some (.int .i64 x) ∧ w'.cell? ⟨B, 1, none⟩ = some (.int .i64 z) ∧ w'.cell? ⟨yb, 0, none⟩ = some (.int .i64 (y.n : Int))) (by kernel_rfl) (by kernel_rfl) (fun c a w d v h => by cases d <;> exact h) ⟨c0, c1, q0⟩ ?_
  simp only [Thr.pick, Array.reduceGetElem?]
  iterate 4
    apply Thr.read rfl
    · intro w' hS
      go_simp
      (repeat rw [if_pos (by omega)])
      try with_reducible rfl
    simp only [Act.put, List.setIfInBounds_toArray, List.set_cons_zero, List.set_cons_succ]
  iterate 7
    apply Thr.readG rfl
    · intro w' hS
      go_simp
      (repeat rw [if_pos (by omega)])
      try with_reducible rfl
    simp only [Act.put, List.setIfInBounds_toArray, List.set_cons_zero, List.set_cons_succ]
  iterate 2
    apply Thr.read rfl
    · intro w' hS
      go_simp
      (repeat rw [if_pos (by omega)])
      try with_reducible rfl
    simp only [Act.put, List.setIfInBounds_toArray, List.set_cons_zero, List.set_cons_succ]
  iterate 3
    apply Thr.readG rfl
    · intro w' hS
      go_simp
      (repeat rw [if_pos (by omega)])
      try with_reducible rfl
    simp only [Act.put, List.setIfInBounds_toArray, List.set_cons_zero, List.set_cons_succ]
  iterate 2
    apply Thr.read rfl
    · intro w' hS
      go_simp
      (repeat rw [if_pos (by omega)])
      try with_reducible rfl
    simp only [Act.put, List.setIfInBounds_toArray, List.set_cons_zero, List.set_cons_succ]
  iterate 6
    apply Thr.readG rfl
    · intro w' hS
      go_simp
      (repeat rw [if_pos (by omega)])
      try with_reducible rfl
    simp only [Act.put, List.setIfInBounds_toArray, List.set_cons_zero, List.set_cons_succ]
  apply Thr.actG rfl
  intro K hK
  go_simp
  refine (hszn _).mono ?_
  rintro e w' ⟨rfl, rfl⟩
  refine hK _ _ ⟨c0, c1, q0⟩ ?_
  clear hK K
  try simp only [Act.put, List.setIfInBounds_toArray, List.set_cons_zero, List.set_cons_succ]
  iterate 1
    apply Thr.readG rfl
    · intro w' hS
      go_simp
      (repeat rw [if_pos (by omega)])
      try with_reducible rfl
    simp only [Act.put, List.setIfInBounds_toArray, List.set_cons_zero, List.set_cons_succ]
  iterate 2
    apply Thr.read rfl
    · intro w' hS
      go_simp
      (repeat rw [if_pos (by omega)])
      try with_reducible rfl
    simp only [Act.put, List.setIfInBounds_toArray, List.set_cons_zero, List.set_cons_succ]
  iterate 4
    apply Thr.skipG rfl
    simp only [Act.put, List.setIfInBounds_toArray, List.set_cons_zero, List.set_cons_succ]
  refine Thr.skipA rfl ⟨c0, c1, q0⟩ ?_
  simp only [Act.put, List.setIfInBounds_toArray, List.set_cons_zero, List.set_cons_succ]
  iterate 2
    apply Thr.skipG rfl
    simp only [Act.put, List.setIfInBounds_toArray, List.set_cons_zero, List.set_cons_succ]
  iterate 2
    apply Thr.read rfl
    · intro w' hS
      go_simp
      (repeat rw [if_pos (by omega)])
      try with_reducible rfl
    simp only [Act.put, List.setIfInBounds_toArray, List.set_cons_zero, List.set_cons_succ]
  refine Thr.done ?_
  go_wp2_with fail
  go_ret
  exact ⟨rfl, HBL.out.drew⟩

set_option maxHeartbeats 4000000 in
set_option maxRecDepth 100000 in
theorem takeAt_bad5 {w : World} {yb : Nat} {cs : Array Value} {y : Yd} (h : YardAt w yb cs y) (s o : Nat) (ho : o ≤ y.n) (hs : s < 2 ^ y.n) (hm : s % 2 ^ o ≠ 0) :
    Calls Try.prog 30 #[.pointer (some ⟨yb, 0, none⟩), .agg #[.int .i64 (s : Int), .int .i64 (o : Int)]] w fun e w' => e = .returned (.int .i64 2) ∧ Below w.heap.size w w' := by
  obtain ⟨x, hx⟩ : ∃ x : Int, x = (s : Int) := ⟨_, rfl⟩
  obtain ⟨z, hz⟩ : ∃ z : Int, z = (o : Int) := ⟨_, rfl⟩
  rw [← hx, ← hz]
  have q1 : w.cell? ⟨yb, 0, none⟩ = some (.int .i64 (y.n : Int)) := h.order_cell
  obtain ⟨B, hB⟩ : ∃ B, B = w.heap.size := ⟨_, rfl⟩
  obtain ⟨W1, hW1⟩ : ∃ W1, W1 = w.alloc (.cells #[.int .i64 x, .int .i64 z] 31) := ⟨_, rfl⟩
  have hb : W1.heap[B]? = some (.cells #[.int .i64 x, .int .i64 z] 31 (0, 0)) := by rw [hW1, hB]; exact box_heap _ _ _
  have hbl : Below w.heap.size w W1 := by rw [hW1]; exact below_alloc' _ _
  have q0 : W1.cell? ⟨yb, 0, none⟩ = some (.int .i64 (y.n : Int)) := (hbl.cell (p := ⟨yb, 0, none⟩) h.lt).trans q1
  obtain ⟨c0, c1⟩ := two_cells hb
  have HW := Lib.hid hW1
  have HB := Lib.hid hB
  have HBL := Lib.hid hbl
  clear hW1 hbl q1 hB
  obtain ⟨N, hN⟩ : ∃ N, N = 2 ^ y.n := ⟨_, rfl⟩
  have hNl : N ≤ 1024 := by rw [hN]; exact pow_le_1024 h.le
  have hszn : ∀ W, Calls Try.prog 54 #[.int .i64 (y.n : Int)] W fun e w' => e = .returned (.int .i64 (N : Int)) ∧ w' = W := fun W => by rw [hN]; exact size_calls y.n (by have := h.le; omega) W
  have HN := Lib.hid hN
  obtain ⟨P, hP⟩ : ∃ P, P = 2 ^ o := ⟨_, rfl⟩
  have hP0 : 0 < P := by rw [hP]; exact pow_pos' o
  have hPl : P ≤ 1024 := by rw [hP]; exact pow_le_1024 (by have := h.le; omega)
  have hszo : ∀ W, Calls Try.prog 54 #[.int .i64 z] W fun e w' => e = .returned (.int .i64 (P : Int)) ∧ w' = W := fun W => by rw [hP, hz]; exact size_calls o (by have := h.le; omega) W
  rw [← hP] at hm
  rw [← hN] at hs
  have h1 : decide (z < 0) = false := by simp; omega
  have h2 : decide (z > (y.n : Int)) = false := by simp; omega
  have h3 : decide (x < 0) = false := by simp; omega
  have h4 : decide (x ≥ (N : Int)) = false := by simp; omega
  have hP2 : P ≠ 0 := by omega
  have hmod : x.tmod (P : Int) = ((s % P : Nat) : Int) := by rw [hx]; exact Int.ofNat_tmod s P |>.symm
  obtain ⟨r, hr⟩ : ∃ r : Int, r = ((s % P : Nat) : Int) := ⟨_, rfl⟩
  rw [← hr] at hmod
  have hr0 : ¬ (r = 0) := by omega
  have hwr : IntKind.i64.wrap r = r := by rw [IntKind.wrap_i64]; have := Nat.mod_lt s hP0; omega
  clear hN hP hr hx hz
  go_enter Try.func30, Try.ntmps30
  go_wp2_with fail
  rw [← HW.out, ← HB.out]
  refine Thr.drawn [(0, false), (1, false), (2, false), (3, false), (4, false), (5, false), (6, false), (7, false), (8, false), (9, false), (10, false), (11, false), (12, false), (13, false), (14, false), (15, false), (16, false), (17, false), (18, false), (19, false), (20, false), (21, false), (22, false), (23, false), (24, true), (25, false), (26, false), (27, false), (28, false), (29, false), (30, false), (31, false), (32, true), (33, false), (34, false), (35, false), (36, false)] 37
    (fun w' => w'.cell? ⟨B, 0, none⟩ = some (.int .i64 x) ∧ w'.cell? ⟨B, 1, none⟩ = some (.int .i64 z) ∧ w'.cell? ⟨yb, 0, none⟩ = some (.int .i64 (y.n : Int))) (by kernel_rfl) (by kernel_rfl) (fun c a w d v h => by cases d <;> exact h) ⟨c0, c1, q0⟩ ?_
  simp only [Thr.pick, Array.reduceGetElem?]
  iterate 4
    apply Thr.read rfl
    · intro w' hS
      go_simp
      (repeat rw [if_pos (by omega)])
      try with_reducible rfl
    simp only [Act.put, List.setIfInBounds_toArray, List.set_cons_zero, List.set_cons_succ]
  iterate 7
    apply Thr.readG rfl
    · intro w' hS
      go_simp
      (repeat rw [if_pos (by omega)])
      try with_reducible rfl
    simp only [Act.put, List.setIfInBounds_toArray, List.set_cons_zero, List.set_cons_succ]
  iterate 2
    apply Thr.read rfl
    · intro w' hS
      go_simp
      (repeat rw [if_pos (by omega)])
      try with_reducible rfl
    simp only [Act.put, List.setIfInBounds_toArray, List.set_cons_zero, List.set_cons_succ]
  iterate 3
    apply Thr.readG rfl
    · intro w' hS
      go_simp
      (repeat rw [if_pos (by omega)])
      try with_reducible rfl
    simp only [Act.put, List.setIfInBounds_toArray, List.set_cons_zero, List.set_cons_succ]
  iterate 2
    apply Thr.read rfl
    · intro w' hS
      go_simp
      (repeat rw [if_pos (by omega)])
      try with_reducible rfl
    simp only [Act.put, List.setIfInBounds_toArray, List.set_cons_zero, List.set_cons_succ]
  iterate 6
    apply Thr.readG rfl
    · intro w' hS
      go_simp
      (repeat rw [if_pos (by omega)])
      try with_reducible rfl
    simp only [Act.put, List.setIfInBounds_toArray, List.set_cons_zero, List.set_cons_succ]
  apply Thr.actG rfl
  intro K hK
  go_simp
  refine (hszn _).mono ?_
  rintro e w' ⟨rfl, rfl⟩
  refine hK _ _ ⟨c0, c1, q0⟩ ?_
  clear hK K
  try simp only [Act.put, List.setIfInBounds_toArray, List.set_cons_zero, List.set_cons_succ]
  iterate 1
    apply Thr.readG rfl
    · intro w' hS
      go_simp
      (repeat rw [if_pos (by omega)])
      try with_reducible rfl
    simp only [Act.put, List.setIfInBounds_toArray, List.set_cons_zero, List.set_cons_succ]
  iterate 2
    apply Thr.read rfl
    · intro w' hS
      go_simp
      (repeat rw [if_pos (by omega)])
      try with_reducible rfl
    simp only [Act.put, List.setIfInBounds_toArray, List.set_cons_zero, List.set_cons_succ]
  iterate 4
    apply Thr.readG rfl
    · intro w' hS
      go_simp
      (repeat rw [if_pos (by omega)])
      try with_reducible rfl
    simp only [Act.put, List.setIfInBounds_toArray, List.set_cons_zero, List.set_cons_succ]
  apply Thr.actG rfl
  intro K hK
  go_simp
  refine (hszo _).mono ?_
  rintro e w' ⟨rfl, rfl⟩
  refine hK _ _ ⟨c0, c1, q0⟩ ?_
  clear hK K
  try simp only [Act.put, List.setIfInBounds_toArray, List.set_cons_zero, List.set_cons_succ]
  iterate 2
    apply Thr.readG rfl
    · intro w' hS
      go_simp
      (repeat rw [if_pos (by omega)])
      try with_reducible rfl
    simp only [Act.put, List.setIfInBounds_toArray, List.set_cons_zero, List.set_cons_succ]
  iterate 2
    apply Thr.read rfl
    · intro w' hS
      go_simp
      (repeat rw [if_pos (by omega)])
      try with_reducible rfl
    simp only [Act.put, List.setIfInBounds_toArray, List.set_cons_zero, List.set_cons_succ]
  refine Thr.done ?_
  go_wp2_with fail
  go_ret
  exact ⟨rfl, HBL.out.drew⟩

/-- What TakeAt makes of a yard, and answers, for a block that may be. -/
def takeAtY (y : Yd) (s o : Nat) : Yd × Int :=
  match aroundF y.n y.free s o with
  | none => (y, 5)
  | some (t, q) => ({ y with free := splitF y.free t q s o, taken := insK Blk.s ⟨s, o⟩ y.taken }, 0)

theorem around_in {y : Yd} {s o t q : Nat} (h : aroundF y.n y.free s o = some (t, q)) : o ≤ q ∧ q ≤ y.n ∧ t ∈ y.free q ∧ s / 2 ^ q = t / 2 ^ q := by
  obtain ⟨h1, h2, h3, h4⟩ := around_some _ _ _ _ rfl h
  refine ⟨h1, h2, h3, ?_⟩
  rw [h4, at_div]

theorem takeAt_good {y : Yd} (g : Good y) (s o : Nat) (hm : s % 2 ^ o = 0) : Good (takeAtY y s o).1 := by
  unfold takeAtY
  split
  · exact g
  · rename_i t q hq
    obtain ⟨h1, h2, h3, h4⟩ := around_in hq
    exact g.cut h3 hm h1 h4

set_option maxHeartbeats 8000000 in
set_option maxRecDepth 100000 in
theorem takeAt_ok {w : World} {yb : Nat} {cs : Array Value} {y : Yd} (h : YardAt w yb cs y) (g : Good y) (s o : Nat) (ho : o ≤ y.n) (hs : s < 2 ^ y.n) (hm : s % 2 ^ o = 0) :
    Calls Try.prog 30 #[.pointer (some ⟨yb, 0, none⟩), .agg #[.int .i64 (s : Int), .int .i64 (o : Int)]] w fun e w' => e = .returned (.int .i64 (takeAtY y s o).2) ∧ ∃ cs', YardAt w' yb cs' (takeAtY y s o).1 ∧ Step w yb cs w' cs' := by
  have hp10 := pow_le_1024 g.le
  have har := fun W (hW : YardAt W yb cs y) => around_calls hW s o (by have := g.le; omega) (by omega) g.sort (fun q => by have := g.len q; omega)
  have hsp := fun t q (hq : aroundF y.n y.free s o = some (t, q)) W (hW : YardAt W yb cs y) => split_calls hW t q s o (around_in hq).2.1 (by have := (g.free_in (around_in hq).2.2.1).2.2.1; omega) (around_in hq).2.2.1 (g.free_in (around_in hq).2.2.1).2.1 hm (around_in hq).1 (around_in hq).2.2.2 g.sort (fun q => by have := g.len q; omega)
  have hhd := fun f W cs2 (hW : YardAt W yb cs2 { y with free := f }) => hold_calls hW s o g.tinc.sort (by show y.taken.length ≤ _; have := g.tlen; omega)
  obtain ⟨T, hT⟩ : ∃ T, T = takeAtY y s o := ⟨_, rfl⟩
  rw [← hT]
  unfold takeAtY at hT
  obtain ⟨x, hx⟩ : ∃ x : Int, x = (s : Int) := ⟨_, rfl⟩
  obtain ⟨z, hz⟩ : ∃ z : Int, z = (o : Int) := ⟨_, rfl⟩
  rw [← hx, ← hz]
  rw [← hx, ← hz] at har hhd
  rw [← hx, ← hz] at hsp
  have HT := Lib.hid hT
  have HAR := Lib.hid har
  have HSP := Lib.hid hsp
  have HHD := Lib.hid hhd
  clear hT har hsp hhd
  have q1 : w.cell? ⟨yb, 0, none⟩ = some (.int .i64 (y.n : Int)) := h.order_cell
  obtain ⟨B, hB⟩ : ∃ B, B = w.heap.size := ⟨_, rfl⟩
  obtain ⟨W1, hW1⟩ : ∃ W1, W1 = w.alloc (.cells #[.int .i64 x, .int .i64 z] 31) := ⟨_, rfl⟩
  have hb : W1.heap[B]? = some (.cells #[.int .i64 x, .int .i64 z] 31 (0, 0)) := by rw [hW1, hB]; exact box_heap _ _ _
  have hbl : Below w.heap.size w W1 := by rw [hW1]; exact below_alloc' _ _
  have q0 : W1.cell? ⟨yb, 0, none⟩ = some (.int .i64 (y.n : Int)) := (hbl.cell (p := ⟨yb, 0, none⟩) h.lt).trans q1
  obtain ⟨c0, c1⟩ := two_cells hb
  have HW := Lib.hid hW1
  have HB := Lib.hid hB
  have HBL := Lib.hid hbl
  clear hW1 hbl q1 hB
  obtain ⟨N, hN⟩ : ∃ N, N = 2 ^ y.n := ⟨_, rfl⟩
  have hNl : N ≤ 1024 := by rw [hN]; exact pow_le_1024 h.le
  have hszn : ∀ W, Calls Try.prog 54 #[.int .i64 (y.n : Int)] W fun e w' => e = .returned (.int .i64 (N : Int)) ∧ w' = W := fun W => by rw [hN]; exact size_calls y.n (by have := h.le; omega) W
  have HN := Lib.hid hN
  obtain ⟨P, hP⟩ : ∃ P, P = 2 ^ o := ⟨_, rfl⟩
  have hP0 : 0 < P := by rw [hP]; exact pow_pos' o
  have hPl : P ≤ 1024 := by rw [hP]; exact pow_le_1024 (by have := h.le; omega)
  have hszo : ∀ W, Calls Try.prog 54 #[.int .i64 z] W fun e w' => e = .returned (.int .i64 (P : Int)) ∧ w' = W := fun W => by rw [hP, hz]; exact size_calls o (by have := h.le; omega) W
  rw [← hP] at hm
  rw [← hN] at hs
  have h1 : decide (z < 0) = false := by simp; omega
  have h2 : decide (z > (y.n : Int)) = false := by simp; omega
  have h3 : decide (x < 0) = false := by simp; omega
  have h4 : decide (x ≥ (N : Int)) = false := by simp; omega
  have hP2 : P ≠ 0 := by omega
  have hmod : x.tmod (P : Int) = 0 := by rw [hx, ← Int.ofNat_tmod s P, hm]; rfl
  clear hN hP hm hs hp10 hx hz
  go_enter Try.func30, Try.ntmps30
  go_wp2_with fail
  rw [← HW.out, ← HB.out]
  refine Thr.drawn [(0, false), (1, false), (2, false), (3, false), (4, false), (5, false), (6, false), (7, false), (8, false), (9, false), (10, false), (11, false), (12, false), (13, false), (14, false), (15, false), (16, false), (17, false), (18, false), (19, false), (20, false), (21, false), (22, false), (23, false), (24, true), (25, false), (26, false), (27, false), (28, false), (29, false), (30, false), (31, false), (32, true), (33, false), (34, false), (35, false), (36, false)] 37
    (fun w' => w'.cell? ⟨B, 0, none⟩ = some (.int .i64 x) ∧ w'.cell? ⟨B, 1, none⟩ = some (.int .i64 z) ∧ w'.cell? ⟨yb, 0, none⟩ = some (.int .i64 (y.n : Int))) (by kernel_rfl) (by kernel_rfl) (fun c a w d v h => by cases d <;> exact h) ⟨c0, c1, q0⟩ ?_
  simp only [Thr.pick, Array.reduceGetElem?]
  iterate 4
    apply Thr.read rfl
    · intro w' hS
      go_simp
      (repeat rw [if_pos (by omega)])
      try with_reducible rfl
    simp only [Act.put, List.setIfInBounds_toArray, List.set_cons_zero, List.set_cons_succ]
  iterate 7
    apply Thr.readG rfl
    · intro w' hS
      go_simp
      (repeat rw [if_pos (by omega)])
      try with_reducible rfl
    simp only [Act.put, List.setIfInBounds_toArray, List.set_cons_zero, List.set_cons_succ]
  iterate 2
    apply Thr.read rfl
    · intro w' hS
      go_simp
      (repeat rw [if_pos (by omega)])
      try with_reducible rfl
    simp only [Act.put, List.setIfInBounds_toArray, List.set_cons_zero, List.set_cons_succ]
  iterate 3
    apply Thr.readG rfl
    · intro w' hS
      go_simp
      (repeat rw [if_pos (by omega)])
      try with_reducible rfl
    simp only [Act.put, List.setIfInBounds_toArray, List.set_cons_zero, List.set_cons_succ]
  iterate 2
    apply Thr.read rfl
    · intro w' hS
      go_simp
      (repeat rw [if_pos (by omega)])
      try with_reducible rfl
    simp only [Act.put, List.setIfInBounds_toArray, List.set_cons_zero, List.set_cons_succ]
  iterate 6
    apply Thr.readG rfl
    · intro w' hS
      go_simp
      (repeat rw [if_pos (by omega)])
      try with_reducible rfl
    simp only [Act.put, List.setIfInBounds_toArray, List.set_cons_zero, List.set_cons_succ]
  apply Thr.actG rfl
  intro K hK
  go_simp
  refine (hszn _).mono ?_
  rintro e w' ⟨rfl, rfl⟩
  refine hK _ _ ⟨c0, c1, q0⟩ ?_
  clear hK K
  try simp only [Act.put, List.setIfInBounds_toArray, List.set_cons_zero, List.set_cons_succ]
  iterate 1
    apply Thr.readG rfl
    · intro w' hS
      go_simp
      (repeat rw [if_pos (by omega)])
      try with_reducible rfl
    simp only [Act.put, List.setIfInBounds_toArray, List.set_cons_zero, List.set_cons_succ]
  iterate 2
    apply Thr.read rfl
    · intro w' hS
      go_simp
      (repeat rw [if_pos (by omega)])
      try with_reducible rfl
    simp only [Act.put, List.setIfInBounds_toArray, List.set_cons_zero, List.set_cons_succ]
  iterate 4
    apply Thr.readG rfl
    · intro w' hS
      go_simp
      (repeat rw [if_pos (by omega)])
      try with_reducible rfl
    simp only [Act.put, List.setIfInBounds_toArray, List.set_cons_zero, List.set_cons_succ]
  apply Thr.actG rfl
  intro K hK
  go_simp
  refine (hszo _).mono ?_
  rintro e w' ⟨rfl, rfl⟩
  refine hK _ _ ⟨c0, c1, q0⟩ ?_
  clear hK K
  try simp only [Act.put, List.setIfInBounds_toArray, List.set_cons_zero, List.set_cons_succ]
  iterate 2
    apply Thr.readG rfl
    · intro w' hS
      go_simp
      (repeat rw [if_pos (by omega)])
      try with_reducible rfl
    simp only [Act.put, List.setIfInBounds_toArray, List.set_cons_zero, List.set_cons_succ]
  iterate 2
    apply Thr.read rfl
    · intro w' hS
      go_simp
      (repeat rw [if_pos (by omega)])
      try with_reducible rfl
    simp only [Act.put, List.setIfInBounds_toArray, List.set_cons_zero, List.set_cons_succ]
  refine Thr.done ?_
  go_wp2_with fail
  have hy1 : YardAt W1.drew yb cs y := (h.below HBL.out).drewN 1
  have hst1 : Step w yb cs W1.drew cs := (Step.of_below HBL.out).drewN 1
  have hnf : ∀ i, B ≤ i → ¬ foot yb cs i := fun i hi hf => by have := h.foot_lt i hf; have := HB.out; omega
  replace hb : W1.drew.heap[B]? = some (.cells #[.int .i64 x, .int .i64 z] 31 (0, 0)) := hb
  refine (HAR.out _ hy1).mono ?_
  rintro e w2 ⟨rfl, hbl2⟩
  have hy2 := hy1.below hbl2
  have hst2 := hst1.below hbl2
  have hBlt : B < W1.drew.heap.size := (Array.getElem?_eq_some_iff.1 hb).1
  replace hb := (hbl2.block B hBlt).trans hb
  have hBlt2 : B < w2.heap.size := (Array.getElem?_eq_some_iff.1 hb).1
  obtain ⟨r, hr⟩ : ∃ r, r = aroundF y.n y.free s o := ⟨_, rfl⟩
  rw [← hr]
  cases r with
  | none =>
    have hT2 : T = (y, 5) := by rw [HT.out, ← hr]
    have HT2 := Lib.hid hT2
    clear hT2 hr
    simp only [arV]
    go_wp2_with fail
    go_ret
    rw [HT2.out]
    exact ⟨rfl, cs, hy2.alloc _, hst2.alloc _⟩
  | some p =>
    obtain ⟨t, q⟩ := p
    have hT2 : T = ({ y with free := splitF y.free t q s o, taken := insK Blk.s ⟨s, o⟩ y.taken }, 0) := by rw [HT.out, ← hr]
    have HT2 := Lib.hid hT2
    have HSQ := Lib.hid (HSP.out t q hr.symm)
    clear hT2 hr
    simp only [arV]
    obtain ⟨C, hC⟩ : ∃ C, C = w2.heap.size := ⟨_, rfl⟩
    obtain ⟨W3, hW3⟩ : ∃ W3, W3 = w2.alloc (.cells #[.int .i64 (t : Int), .int .i64 (q : Int)] 31) := ⟨_, rfl⟩
    have hc3 : W3.heap[C]? = some (.cells #[.int .i64 (t : Int), .int .i64 (q : Int)] 31 (0, 0)) := by rw [hW3, hC]; exact box_heap _ _ _
    have hb3 : W3.heap[B]? = some (.cells #[.int .i64 x, .int .i64 z] 31 (0, 0)) := by rw [hW3, heap_alloc_old _ _ hBlt2]; exact hb
    have hy3 : YardAt W3 yb cs y := by rw [hW3]; exact hy2.alloc _
    have hst3 : Step w yb cs W3 cs := by rw [hW3]; exact hst2.alloc _
    have HW3 := Lib.hid hW3
    have HC := Lib.hid hC
    clear c0 c1
    obtain ⟨c0, c1⟩ := two_cells hb3
    have e0 := c0
    have e1 := c1
    rw [hW3] at e0 e1
    clear hW3 hC
    obtain ⟨d0, d1⟩ := two_cells hc3
    have hB3 : B < W3.heap.size := (Array.getElem?_eq_some_iff.1 hb3).1
    go_wp2_with fail
    rw [← HW3.out]
    refine (HSQ.out _ hy3).mono ?_
    rintro e w4 ⟨rfl, cs4, hy4, hst4⟩
    replace hb3 := (hst4.keeps.block B hB3 (hnf B (Nat.le_refl _))).trans hb3
    obtain ⟨c0, c1⟩ := two_cells hb3
    clear d0 d1 hc3
    go_wp2_with fail
    refine (HHD.out _ _ _ hy4).mono ?_
    rintro e w5 ⟨rfl, cs5, hy5, hst5⟩
    go_wp2_with fail
    go_ret
    rw [HT2.out]
    exact ⟨rfl, cs5, hy5, (hst3.trans hst4).trans hst5⟩

end Go.Proofs.Ythmgnfkjkdmdoaa
