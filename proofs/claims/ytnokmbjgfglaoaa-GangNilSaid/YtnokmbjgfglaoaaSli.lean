/- slices.Delete of this dump, on rows of cells that the call owns. -/
import Derived.Test.YtnokmbjgfglaoaaProg
import Derived.Test.YtnokmbjgfglaoaaThread
import Derived.Test.YtnokmbjgfglaoaaRow
import Derived.KernelRfl
import Derived.WalkSpells
import Derived.WalkLawsBesides
import Derived.Maps.AppendAt
import Derived.Lib.AppendZerosOnto
import Derived.Lib.Overlaps
import Derived.Lib.Hide
import Derived.Laws.Externs
set_option linter.unusedSimpArgs false
set_option linter.unusedVariables false
namespace Go.Proofs.Ytnokmbjgfglaoaa
open Go Go.RowKit

theorem info34 : (Try.prog.info? 34).map (fun i => (i.zero, i.size, i.bytes)) = some (some (.agg #[.int .u32 0, .int .i64 0, .int .i64 0, .int .i64 0]), 4, 32) := by kernel_rfl
theorem zero34 : ∀ w, (zeroValue 34).run Try.prog w = .ok (.agg #[.int .u32 0, .int .i64 0, .int .i64 0, .int .i64 0]) w := fun _ => by kernel_rfl
theorem size34 : (Try.prog.info? 34).map (·.size) = some 4 := by kernel_rfl
theorem info30 : (Try.prog.info? 30).map (fun i => (i.zero, i.size, i.bytes)) = some (some (.int .u32 0), 1, 4) := by kernel_rfl

set_option maxHeartbeats 1000000 in
set_option maxRecDepth 100000 in
theorem delete_cells_cells (g n cap i : Nat) (cur : Array Value) (w : World) (hg : w.heap[g]? = some (.cells cur 34 (0, 0))) (hn : n ≤ cap) (hm : cap ≤ maxLen) (hs : cur.size = cap * 4) (hi : i < n)
    (h1 : ∀ u ∈ cur.toList.take (n * 4), u.oneCell' = true) :
    Calls Try.prog 40 #[.slice (some ⟨g, 0, none⟩) n cap, .int .i64 (i : Int), .int .i64 ((i : Int) + 1)] w fun e w' => e = .returned (.slice (some ⟨g, 0, none⟩) (i + (n - (i + 1))) cap) ∧
      w' = (w.drew.setRow g (Row.put (Row.put cur (i * 4) ((cur.toList.take (n * 4)).drop ((i + 1) * 4))) ((i + (n - (i + 1))) * 4) (Builtin.zeroCells #[.int .u32 0, .int .i64 0, .int .i64 0, .int .i64 0] (n - (i + (n - (i + 1))))).toList)) := by
  unfold maxLen at hm
  obtain ⟨i0, hi0, hz0, hz1, hz2⟩ := info_parts info34
  have hin : i + 1 ≤ n := hi
  obtain ⟨news, hnews⟩ : ∃ news, news = (cur.toList.take (n * 4)).drop ((i + 1) * 4) := ⟨_, rfl⟩
  have hlen : news.length = (n - (i + 1)) * 4 := by
    rw [hnews, List.length_drop, List.length_take, Array.length_toList, hs, Nat.min_eq_left (show n * 4 ≤ cap * 4 by omega)]
    omega
  have hl : Hid (news.length = (n - (i + 1)) * i0.size) := by
    rw [hz1]; exact hlen
  obtain ⟨A, hA, hsrc⟩ : ∃ A : Addr, (if cap = i + 1 then some (⟨g, 0, none⟩ : Addr) else some ⟨g, (i + 1) * 4, none⟩) = some A ∧ Hid (∀ t u, news[t]? = some u → w.drew.cell? (A.add t) = some u) := by
    by_cases h : cap = i + 1
    · refine ⟨_, by rw [if_pos h], fun t u hu => ?_⟩
      have : news.length = 0 := by omega
      rw [List.length_eq_zero_iff.1 this] at hu
      cases hu
    · refine ⟨_, by rw [if_neg h], fun t u hu => ?_⟩
      rw [Addr.add_lit]
      show w.cell? _ = _
      rw [hnews, List.getElem?_drop, List.getElem?_take] at hu
      split at hu
      · simpa [World.cell?, hg] using hu
      · cases hu
  have h1n : Hid (∀ u ∈ news, u.oneCell' = true) := fun u hu => h1 u (by rw [hnews] at hu; exact List.mem_of_mem_drop hu)
  have hr1 : Hid (∀ c, (Builtin.append_ #[25, 25] 25 #[.slice (some ⟨g, 0, none⟩) i cap, .slice (some A) (n - (i + 1)) c]).run Try.prog w.drew = .ok (.slice (some ⟨g, 0, none⟩) (i + (n - (i + 1))) cap) (w.drew.setRow g (Row.put cur (i * 4) news))) := fun c => by
    have := run_append_room (P := Try.prog) w.drew 25 25 34 i0 Try.underlying25 hi0 g i cap cur hg A (n - (i + 1)) c news hl.out hsrc.out h1n.out (by omega) (by rw [hz1, hlen, hs]; omega)
    rw [hz1] at this
    first | exact this | (simp only [Nat.mul_one] at this ⊢; exact this)
  have hg1 : (w.drew.setRow g (Row.put cur (i * 4) news)).heap[g]? = some (.cells (Row.put cur (i * 4) news) 34 (0, 0)) := Row.heap_setRow _ _ _ _ _ _ hg
  have hr2 : Hid (∀ c, (Builtin.clear_ #[25] 0 #[.slice (some ⟨g, (i + (n - (i + 1))) * 4, none⟩) (n - (i + (n - (i + 1)))) c]).run Try.prog (w.drew.setRow g (Row.put cur (i * 4) news)) = .ok (.tuple #[]) (w.drew.setRow g (Row.put (Row.put cur (i * 4) news) ((i + (n - (i + 1))) * 4) (Builtin.zeroCells #[.int .u32 0, .int .i64 0, .int .i64 0, .int .i64 0] (n - (i + (n - (i + 1))))).toList))) := fun c => by
    have := Row.run_clear_row (w.drew.setRow g (Row.put cur (i * 4) news)) 25 34 0 (.agg #[.int .u32 0, .int .i64 0, .int .i64 0, .int .i64 0]) 4 Try.underlying25 zero34 rfl g ((i + (n - (i + 1))) * 4) (n - (i + (n - (i + 1)))) c _ _ hg1
      (by rw [Row.size_put _ _ _ (by rw [hlen, hs]; omega), hs]; omega) (by
        rw [show n - (i + (n - (i + 1))) = 1 by omega]
        intro u hu
        simp [Builtin.zeroCells, Value.cells, Array.range_succ] at hu
        rcases hu with rfl | rfl | rfl | rfl <;> rfl)
    rw [Row.setRow_setRow] at this
    first | exact this | (simp only [Nat.mul_one] at this ⊢; exact this)
  rw [← hnews]
  generalize w.drew.setRow g (Row.put (Row.put cur (i * 4) news) ((i + (n - (i + 1))) * 4) (Builtin.zeroCells #[.int .u32 0, .int .i64 0, .int .i64 0, .int .i64 0] (n - (i + (n - (i + 1))))).toList) = W2 at *
  generalize w.drew.setRow g (Row.put cur (i * 4) news) = W1 at *
  have b1 : (i : Int) ≤ (i : Int) + 1 := by omega
  have b2 : (i : Int) + 1 ≤ (n : Int) := by omega
  have b3 : (0 : Int) ≤ (i : Int) := by omega
  have b4 : (n : Int) ≤ (cap : Int) := by omega
  have b5 : ((i : Int) == (i : Int) + 1) = false := by rw [beq_eq_false_iff_ne]; omega
  clear hg hg1 hnews hlen hs h1 hi0 hz0 hz1 hz2
  go_enter Try.func40, Try.ntmps40
  go_wp2_with fail
  refine Thr.drawn [(0, false), (1, false), (2, false), (3, false), (4, false), (5, false), (6, true), (7, false)] 8 (fun _ => True) (by kernel_rfl) (by kernel_rfl) (fun c a w d v h => by cases d <;> exact h) trivial ?_
  simp only [Thr.pick, Array.reduceGetElem?]
  iterate 6
    apply Thr.read rfl
    · intro w' hS
      go_simp
      (repeat rw [if_pos (by omega)])
      try with_reducible rfl
    simp only [Act.put, List.setIfInBounds_toArray, List.set_cons_zero, List.set_cons_succ, hA]
  apply Thr.act rfl
  intro K hK
  refine Row.wp_append (hr1.out _) rfl rfl rfl (hK _ _ trivial ?_)
  apply Thr.read rfl
  · intro w' hS
    go_simp
    try with_reducible rfl
  simp only [Act.put, List.setIfInBounds_toArray, List.set_cons_zero, List.set_cons_succ]
  refine Thr.done ?_
  go_wp2_with (refine Row.list_clear (hr2.out _) rfl rfl rfl ?_)
  go_ret
  exact ⟨rfl, rfl⟩

/-- slices.Delete(s, i, i+1) on a row of the call's own. -/
theorem delete_cells {base n i : Nat} {v : Value} {xs : List Value} {w : World} (hown : w.ownsRow base 34 4 v n xs) (hi : i < n) (h1 : ∀ u ∈ xs, u.oneCell' = true) :
    Calls Try.prog 40 #[v, .int .i64 (i : Int), .int .i64 ((i : Int) + 1)] w fun e w' => ∃ v', e = .returned v' ∧ w'.ownsRow base 34 4 v' (n - 1) (xs.take (i * 4) ++ xs.drop ((i + 1) * 4)) ∧
      w.grownBy w' v.ownBlock ∧ v'.ownBlock = v.ownBlock := by
  rcases hown.2 with ⟨_, h0⟩ | ⟨g, cap, cur, rfl, hb, hg, hn, hm, hs, ht⟩
  · omega
  · refine (delete_cells_cells g n cap i cur w hg hn hm hs hi (by rw [ht]; exact h1)).mono ?_
    rintro e w' ⟨rfl, rfl⟩
    have hl : (cur.toList.take (n * 4)).length = n * 4 := by rw [List.length_take, Array.length_toList, hs]; exact Nat.min_eq_left (Nat.mul_le_mul_right _ hn)
    have hlen : ((cur.toList.take (n * 4)).drop ((i + 1) * 4)).length = (n - (i + 1)) * 4 := by rw [List.length_drop, hl]; omega
    have hz : (Builtin.zeroCells #[.int .u32 0, .int .i64 0, .int .i64 0, .int .i64 0] (n - (i + (n - (i + 1))))).toList.length = 4 := by
      rw [show n - (i + (n - (i + 1))) = 1 by omega]; simp [Builtin.zeroCells]
    have hs1 : (Row.put cur (i * 4) ((cur.toList.take (n * 4)).drop ((i + 1) * 4))).size = cap * 4 := by rw [Row.size_put _ _ _ (by rw [hlen, hs]; omega), hs]
    refine ⟨_, rfl, ?_, ?_, rfl⟩
    · rw [show n - 1 = i + (n - (i + 1)) by omega]
      refine Row.own_mk (Row.heap_setRow w.drew g cur _ _ _ hg) hb (by omega) hm (by rw [Row.size_put _ _ _ (by rw [hz, hs1]; omega), hs1]) ?_
      rw [← ht]
      exact Row.delete_list cur.toList _ i n 4 (by omega) (by rw [Array.length_toList, hs]; omega) (by omega) (by omega) hlen
    · have := Row.grown_setRow w.drew g (Row.put (Row.put cur (i * 4) ((cur.toList.take (n * 4)).drop ((i + 1) * 4))) ((i + (n - (i + 1))) * 4) (Builtin.zeroCells #[.int .u32 0, .int .i64 0, .int .i64 0, .int .i64 0] (n - (i + (n - (i + 1))))).toList)
      exact ⟨this.os, this.tape, this.output, this.size, this.block⟩

end Go.Proofs.Ytnokmbjgfglaoaa
