/- Contracts: size, lift. -/
import Derived.Test.YthmgnfkjkdmdoaaYard
set_option linter.unusedSimpArgs false
set_option linter.unusedVariables false
namespace Go.Proofs.Ythmgnfkjkdmdoaa
open Go Go.RowKit Bud

set_option maxHeartbeats 1000000 in
theorem size_calls (o : Nat) (ho : o ≤ 10) (w : World) : Calls Try.prog 54 #[.int .i64 (o : Int)] w fun e w' => e = .returned (.int .i64 ((2 ^ o : Nat) : Int)) ∧ w' = w := by
  have h : ∀ o : Nat, o ≤ 10 → Calls Try.prog 54 #[.int .i64 (o : Int)] w fun e w' => e = .returned (.int .i64 ((2 ^ o : Nat) : Int)) ∧ w' = w := by
    intro o ho
    match o, ho with
    | 0, _ | 1, _ | 2, _ | 3, _ | 4, _ | 5, _ | 6, _ | 7, _ | 8, _ | 9, _ | 10, _ =>
      go_enter Try.func54, Try.ntmps54
      go_wp2
      go_ret
      exact ⟨rfl, rfl⟩
  exact h o ho

set_option maxHeartbeats 1000000 in
set_option maxRecDepth 100000 in
theorem lift_calls {w : World} {yb : Nat} {cs : Array Value} {y : Yd} (h : YardAt w yb cs y) (b : Blk) (ho : b.o ≤ y.n) (hs : SortK id (y.free b.o)) (hm : b.s ∈ y.free b.o) (hl : (y.free b.o).length ≤ 1073741824) :
    Calls Try.prog 67 #[.pointer (some ⟨yb, 0, none⟩), .agg #[.int .i64 (b.s : Int), .int .i64 (b.o : Int)]] w fun e w' => e = .returned (.tuple #[]) ∧
      ∃ cs', YardAt w' yb cs' { y with free := upd y.free b.o (delK id b.s (y.free b.o)) } ∧ Step w yb cs w' cs' := by
  obtain ⟨s, o⟩ := b
  simp only at ho hs hm hl ⊢
  have hle := h.le
  obtain ⟨V, hV⟩ : ∃ V, V = at_ cs (1 + o) := ⟨_, rfl⟩
  obtain ⟨a, c, hf, hn, hc, hg⟩ := own_form (h.free o (by omega))
  rw [← hV] at hf
  obtain ⟨W1, hW1⟩ : ∃ W1, W1 = w.alloc (.cells #[.int .i64 (s : Int), .int .i64 (o : Int)] 31) := ⟨_, rfl⟩
  have hb1 : Below w.heap.size w W1 := by rw [hW1]; exact below_alloc' _ _
  have y1 : YardAt W1 yb cs y := h.below hb1
  have c0 : W1.cell? ⟨w.heap.size, 0, none⟩ = some (.int .i64 (s : Int)) := by rw [hW1, box_cell]; rfl
  have c1 : W1.cell? ⟨w.heap.size, 1, none⟩ = some (.int .i64 (o : Int)) := by rw [hW1, box_cell]; rfl
  have c2 : W1.cell? ⟨yb, 1 + o, none⟩ = some V := by rw [y1.cell (1 + o) (by omega), hV]
  have i0 : (0 : Int) ≤ (o : Int) := by omega
  have i1 : (o : Int) < 11 := by omega
  have ho1 : OwnN W1 (.slice a (y.free o).length c) (y.free o) := by rw [← hf, hV]; exact y1.free o (by omega)
  have HW := Lib.hid hW1
  go_enter Try.func67, Try.ntmps67
  go_wp2_with fail
  rw [← HW.out]
  clear hW1
  rw [hf] at c2
  refine Thr.drawn [(0, false), (1, false), (2, false), (3, false), (4, false), (5, false), (6, false), (7, false), (8, false), (9, true), (10, false), (11, false), (12, false), (13, false), (14, false)] 15
    (fun w' => w'.cell? ⟨w.heap.size, 0, none⟩ = some (.int .i64 (s : Int)) ∧ w'.cell? ⟨w.heap.size, 1, none⟩ = some (.int .i64 (o : Int)) ∧ w'.cell? ⟨yb, 1 + o, none⟩ = some (.slice a (y.free o).length c)) (by kernel_rfl) (by kernel_rfl) (fun c a w d v h => by cases d <;> exact h) ⟨c0, c1, c2⟩ ?_
  simp only [Thr.pick, Array.reduceGetElem?]
  iterate 9
    apply Thr.read rfl
    · intro w' hS
      go_simp
      (repeat rw [if_pos (by omega)])
      try with_reducible rfl
    simp only [Act.put, List.setIfInBounds_toArray, List.set_cons_zero, List.set_cons_succ]
  apply Thr.act rfl
  intro K hK
  go_simp
  refine (search_own (w := W1.drew) ho1 hs (by omega) s).mono ?_
  rintro e w' ⟨rfl, q, rfl⟩
  refine hK _ _ ⟨c0, c1, c2⟩ ?_
  try simp only [Act.put, List.setIfInBounds_toArray, List.set_cons_zero, List.set_cons_succ]
  iterate 5
    apply Thr.read rfl
    · intro w' hS
      go_simp
      try with_reducible rfl
    simp only [Act.put, List.setIfInBounds_toArray, List.set_cons_zero, List.set_cons_succ]
  refine Thr.done ?_
  clear hK K
  have y2 : YardAt (W1.drew.drewN q) yb cs y := (y1.below (w' := W1.drew) (below_drewN' W1 1)).below (below_drewN' _ q)
  have hb2 : Below w.heap.size w (W1.drew.drewN q) := ⟨hb1.os, hb1.tape, hb1.output, hb1.size, hb1.block⟩
  have d0 : (W1.drew.drewN q).cell? ⟨w.heap.size, 0, none⟩ = some (.int .i64 (s : Int)) := c0
  have d1 : (W1.drew.drewN q).cell? ⟨w.heap.size, 1, none⟩ = some (.int .i64 (o : Int)) := c1
  have d2 : (W1.drew.drewN q).cell? ⟨yb, 1 + o, none⟩ = some (.slice a (y.free o).length c) := c2
  have ho2 : OwnN (W1.drew.drewN q) (.slice a (y.free o).length c) (y.free o) := ho1
  generalize W1.drew.drewN q = W2 at *
  clear c0 c1 c2 ho1 y1 hb1 HW
  obtain ⟨p, hp⟩ : ∃ p, p = posK id s (y.free o) := ⟨_, rfl⟩
  have HP := Lib.hid hp
  rw [← hp]
  have hpl : p < (y.free o).length := by
    rw [hp]
    have := length_delK id hs hm rfl
    rcases Nat.lt_or_ge (posK id s (y.free o)) (y.free o).length with hh | hh
    · exact hh
    · rw [show id s = s from rfl] at this
      rw [delK, List.eraseIdx_of_length_le hh] at this
      omega
  clear hp
  have p0 : IntKind.i64.wrap ((p : Int) + 1) = (p : Int) + 1 := by rw [IntKind.wrap_i64]; omega
  go_wp2_with fail
  refine Thr.drawn [(0, false), (1, false), (2, false), (3, false), (4, false), (5, false), (6, false), (7, false), (8, false), (9, false), (10, false), (11, false), (12, false), (14, false), (15, false), (13, true), (16, false), (17, true)] 17
    (fun w' => w'.cell? ⟨w.heap.size, 0, none⟩ = some (.int .i64 (s : Int)) ∧ w'.cell? ⟨w.heap.size, 1, none⟩ = some (.int .i64 (o : Int)) ∧ w'.cell? ⟨yb, 1 + o, none⟩ = some (.slice a (y.free o).length c)) (by kernel_rfl) (by kernel_rfl) (fun c a w d v h => by cases d <;> exact h) ⟨d0, d1, d2⟩ ?_
  simp only [Thr.pick, Array.reduceGetElem?]
  iterate 15
    apply Thr.read rfl
    · intro w' hS
      go_simp
      (repeat rw [if_pos (by omega)])
      try with_reducible rfl
    simp only [Act.put, List.setIfInBounds_toArray, List.set_cons_zero, List.set_cons_succ]
  apply Thr.act rfl
  intro K hK
  go_simp
  refine (delN (w := W2.drew) ho2 p hpl).mono ?_
  rintro e w' ⟨v', rfl, hd, hmv⟩
  have hne : ∀ k, V.ownBlock = some k → k ≠ yb ∧ k < w.heap.size := fun k hk => by
    rw [hV] at hk
    exact ⟨fun e => h.own (1 + o) (by omega) (by omega) (e ▸ hk), h.slot_lt (1 + o) (by omega) (by omega) k hk⟩
  rw [← hf] at hmv
  have e0 : w'.cell? ⟨w.heap.size, 0, none⟩ = some (.int .i64 (s : Int)) := hmv.grown.cell (w := W2.drew) d0 (fun e => by have := (hne _ e.symm).2; simp at this)
  have e1 : w'.cell? ⟨w.heap.size, 1, none⟩ = some (.int .i64 (o : Int)) := hmv.grown.cell (w := W2.drew) d1 (fun e => by have := (hne _ e.symm).2; simp at this)
  have e2 : w'.cell? ⟨yb, 1 + o, none⟩ = some (.slice a (y.free o).length c) := hmv.grown.cell (w := W2.drew) d2 (fun e => (hne _ e.symm).1 rfl)
  have e3 : w'.frozen? ⟨yb, 1 + o, none⟩ = false := by
    rw [World.frozen?_of_block (hmv.grown.block yb y2.lt (fun e => (hne _ e.symm).1 rfl))]
    exact y2.frozen _
  refine hK _ _ ⟨e0, e1, e2⟩ ?_
  clear hK K
  obtain ⟨a', c', rfl, _, _, _⟩ := own_form hd
  try simp only [Act.put, List.setIfInBounds_toArray, List.set_cons_zero, List.set_cons_succ]
  apply Thr.read rfl
  · intro w' hS
    go_simp
    (repeat rw [if_pos (by omega)])
    try with_reducible rfl
  simp only [Act.put, List.setIfInBounds_toArray, List.set_cons_zero, List.set_cons_succ]
  apply Thr.last rfl
  intro K hK
  go_simp
  refine hK _ _ ?_
  go_wp2_with fail
  go_end0
  rw [hV] at hmv
  have hput := (show YardAt W2.drew yb cs y from y2.below (below_drewN' W2 1)).put_free o (by omega) hmv hd
  have hE : delK id s (y.free o) = (y.free o).eraseIdx p := by rw [HP.out]; rfl
  rw [hE]
  exact ⟨rfl, _, hput.1, (Step.of_below (w' := W2.drew) ⟨hb2.os, hb2.tape, hb2.output, hb2.size, hb2.block⟩).trans hput.2⟩
end Go.Proofs.Ythmgnfkjkdmdoaa
