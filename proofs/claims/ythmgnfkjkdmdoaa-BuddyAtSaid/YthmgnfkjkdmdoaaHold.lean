/- Contract: hold. -/
import Derived.Test.YthmgnfkjkdmdoaaBsf
import Derived.Test.YthmgnfkjkdmdoaaThread
set_option linter.unusedSimpArgs false
set_option linter.unusedVariables false
namespace Go.Proofs.Ythmgnfkjkdmdoaa
open Go Go.RowKit Bud

set_option maxHeartbeats 4000000 in
set_option maxRecDepth 100000 in
theorem hold_calls {w : World} {yb : Nat} {cs : Array Value} {y : Yd} (h : YardAt w yb cs y) (s o : Nat) (hsrt : SortK Blk.s y.taken) (hl : y.taken.length ≤ 1073741824) :
    Calls Try.prog 55 #[.pointer (some ⟨yb, 0, none⟩), .agg #[.int .i64 (s : Int), .int .i64 (o : Int)]] w fun e w' => e = .returned (.tuple #[]) ∧
      ∃ cs', YardAt w' yb cs' { y with taken := insK Blk.s ⟨s, o⟩ y.taken } ∧ Step w yb cs w' cs' := by
  have hle := h.le
  obtain ⟨B, hB⟩ : ∃ B, B = w.heap.size := ⟨_, rfl⟩
  obtain ⟨W1, hW1⟩ : ∃ W1, W1 = w.alloc (.cells #[.int .i64 (s : Int), .int .i64 (o : Int)] 31) := ⟨_, rfl⟩
  have hb : W1.heap[B]? = some (.cells #[.int .i64 (s : Int), .int .i64 (o : Int)] 31 (0, 0)) := by rw [hW1, hB]; exact box_heap _ _ _
  have hy : YardAt W1 yb cs y := by rw [hW1]; exact h.alloc _
  have hst : Step w yb cs W1 cs := by rw [hW1]; exact (Step.refl _ _ _).alloc _
  have hnf : ¬ foot yb cs B := fun hf => by have := h.foot_lt B hf; omega
  obtain ⟨c0, c1⟩ := two_cells hb
  obtain ⟨V, hV⟩ : ∃ V, V = at_ cs 12 := ⟨_, rfl⟩
  obtain ⟨a, c, hf, hn, hc, hg⟩ := own_form hy.taken
  rw [← hV] at hf
  have ho1 : OwnB W1 (.slice a y.taken.length c) y.taken := by rw [← hf, hV]; exact hy.taken
  have c2 : W1.cell? ⟨yb, 12, none⟩ = some (.slice a y.taken.length c) := by rw [← hf, hV]; exact hy.cell 12 (by omega)
  obtain ⟨l, hll⟩ : ∃ l, l = y.taken := ⟨_, rfl⟩
  rw [← hll] at ho1 c2 hsrt hl hf hn hg ⊢
  have HV := Lib.hid hV
  have HF := Lib.hid hf
  have HW := Lib.hid hW1
  have HLL := Lib.hid hll
  clear hV hf hW1 hll
  go_enter Try.func55, Try.ntmps55
  go_wp2_with fail
  rw [← HW.out, ← hB]
  clear hB h
  refine Thr.drawn [(0, false), (1, false), (2, false), (3, false), (4, false), (5, false), (6, true), (7, false), (8, false), (9, false), (10, false), (11, false)] 12
    (fun w' => w'.cell? ⟨B, 0, none⟩ = some (.int .i64 (s : Int)) ∧ w'.cell? ⟨B, 1, none⟩ = some (.int .i64 (o : Int)) ∧ w'.cell? ⟨yb, 12, none⟩ = some (.slice a l.length c)) (by kernel_rfl) (by kernel_rfl) (fun c a w d v h => by cases d <;> exact h) ⟨c0, c1, c2⟩ ?_
  simp only [Thr.pick, Array.reduceGetElem?]
  iterate 6
    apply Thr.read rfl
    · intro w' hS
      go_simp
      (repeat rw [if_pos (by omega)])
      try with_reducible rfl
    simp only [Act.put, List.setIfInBounds_toArray, List.set_cons_zero, List.set_cons_succ]
  apply Thr.act rfl
  intro K hK
  go_simp
  have hsr := bsf_calls (w := W1.drew) ho1 hsrt hl (s : Int)
  rw [posI_nat] at hsr
  refine hsr.mono ?_
  rintro e W4 ⟨rfl, hbl⟩
  have hsz : W1.drew.heap.size = W1.heap.size := rfl
  replace hb := (hbl.block B (Array.getElem?_eq_some_iff.1 hb).1).trans hb
  replace c0 := (hbl.cell (p := ⟨B, 0, none⟩) (World.block_lt_of_cell? _ _ c0)).trans c0
  replace c1 := (hbl.cell (p := ⟨B, 1, none⟩) (World.block_lt_of_cell? _ _ c1)).trans c1
  replace c2 := (hbl.cell (p := ⟨yb, 12, none⟩) (World.block_lt_of_cell? _ _ c2)).trans c2
  replace hy := (hy.drewN 1).below hbl
  replace hst := (hst.drewN 1).below hbl
  refine hK _ _ ⟨c0, c1, c2⟩ ?_
  clear hK K
  try simp only [Act.put, List.setIfInBounds_toArray, List.set_cons_zero, List.set_cons_succ]
  iterate 5
    apply Thr.read rfl
    · intro w' hS
      go_simp
      (repeat rw [if_pos (by omega)])
      try with_reducible rfl
    simp only [Act.put, List.setIfInBounds_toArray, List.set_cons_zero, List.set_cons_succ]
  refine Thr.done ?_
  have ho2 : OwnB W4 (.slice a l.length c) l := by rw [← HF.out, HV.out, HLL.out]; exact hy.taken
  obtain ⟨p, hp⟩ : ∃ p, p = posK Blk.s s l := ⟨_, rfl⟩
  have hpl : p ≤ l.length := by rw [hp]; exact posK_le _ _ _
  have HPO := Lib.hid hp
  rw [← hp]
  clear hp
  go_wp2_with fail
  refine Thr.drawn [(0, false), (1, false), (2, false), (3, false), (4, false), (5, false), (6, false), (7, true), (8, true), (9, false), (10, false), (11, true)] 11
    (fun w' => w'.cell? ⟨B, 0, none⟩ = some (.int .i64 (s : Int)) ∧ w'.cell? ⟨B, 1, none⟩ = some (.int .i64 (o : Int)) ∧ w'.cell? ⟨yb, 12, none⟩ = some (.slice a l.length c)) (by kernel_rfl) (by kernel_rfl) (fun c a w d v h => by cases d <;> exact h) ⟨c0, c1, c2⟩ ?_
  simp only [Thr.pick, Array.reduceGetElem?]
  iterate 7
    apply Thr.read rfl
    · intro w' hS
      go_simp
      (repeat rw [if_pos (by omega)])
      try with_reducible rfl
    simp only [Act.put, List.setIfInBounds_toArray, List.set_cons_zero, List.set_cons_succ]
  apply Thr.act rfl
  intro K hK
  go_simp
  obtain ⟨W3, hW3⟩ : ∃ W3, W3 = (W4.alloc (.cells #[.int .i64 (s : Int), .int .i64 (o : Int)] 31)).drew := ⟨_, rfl⟩
  rw [← hW3]
  have hvb : W3.heap[W4.heap.size]? = some (.cells #[.int .i64 (s : Int), .int .i64 (o : Int)] 31 (0, 0)) := by rw [hW3]; exact box_heap W4 _ _
  have b3 : Below W4.heap.size W4 W3 := by rw [hW3]; exact (below_alloc' W4 _).drew
  have hVn : ∀ k, V.ownBlock = some k → k ≠ yb ∧ k ≠ B ∧ k < W4.heap.size := fun k hk => by
    rw [HV.out] at hk
    exact ⟨fun e => hy.own 12 (by omega) (by omega) (e ▸ hk), fun e => hnf (.inr ⟨12, by omega, by omega, e ▸ hk⟩), hy.slot_lt 12 (by omega) (by omega) k hk⟩
  replace hy := hy.below b3
  replace hst := hst.below b3
  replace c0 := (b3.cell (p := ⟨B, 0, none⟩) (World.block_lt_of_cell? _ _ c0)).trans c0
  replace c1 := (b3.cell (p := ⟨B, 1, none⟩) (World.block_lt_of_cell? _ _ c1)).trans c1
  replace c2 := (b3.cell (p := ⟨yb, 12, none⟩) (World.block_lt_of_cell? _ _ c2)).trans c2
  replace ho2 : OwnB W3 (.slice a l.length c) l := by rw [← HF.out, HV.out, HLL.out]; exact hy.taken
  clear hW3
  refine hK _ _ ⟨c0, c1, c2⟩ ?_
  clear hK K
  try simp only [Act.put, List.setIfInBounds_toArray, List.set_cons_zero, List.set_cons_succ]
  apply Thr.act rfl
  intro K hK
  go_simp
  refine (insB (w := W3) ho2 p W4.heap.size ⟨s, o⟩ hpl hvb (by rw [← HF.out]; exact fun e => by have := (hVn _ e).2.2; omega) hl).mono ?_
  rintro e w' ⟨v', rfl, hd, hmv⟩
  obtain ⟨L', hL'⟩ : ∃ L', L' = l.take p ++ (⟨s, o⟩ : Blk) :: l.drop p := ⟨_, rfl⟩
  rw [← hL'] at hd
  have HL' := Lib.hid hL'
  clear hL'
  rw [← HF.out] at hmv
  replace c0 := hmv.grown.cell c0 (fun e => (hVn _ e.symm).2.1 rfl)
  replace c1 := hmv.grown.cell c1 (fun e => (hVn _ e.symm).2.1 rfl)
  replace c2 := hmv.grown.cell c2 (fun e => (hVn _ e.symm).1 rfl)
  have e3 : w'.frozen? ⟨yb, 12, none⟩ = false := by
    rw [World.frozen?_of_block (hmv.grown.block yb hy.lt (fun e => (hVn _ e.symm).1 rfl))]
    exact hy.frozen _
  refine hK _ _ ⟨c0, c1, c2⟩ ?_
  clear hK K
  obtain ⟨a', c', rfl, _, _, _⟩ := own_form hd
  try simp only [Act.put, List.setIfInBounds_toArray, List.set_cons_zero, List.set_cons_succ]
  iterate 2
    apply Thr.read rfl
    · intro w' hS
      go_simp
      (repeat rw [if_pos (by omega)])
      try with_reducible rfl
    simp only [Act.put, List.setIfInBounds_toArray, List.set_cons_zero, List.set_cons_succ]
  apply Thr.last rfl
  intro K hK
  go_simp
  refine hK _ _ ?_
  clear hK K
  rw [HV.out] at hmv
  have hput := hy.put_taken hmv hd
  go_wp2_with fail
  go_end0
  rw [show insK Blk.s ⟨s, o⟩ l = L' by rw [HL'.out, HPO.out]; rfl]
  exact ⟨rfl, _, hput.1, hst.trans hput.2⟩
end Go.Proofs.Ythmgnfkjkdmdoaa
