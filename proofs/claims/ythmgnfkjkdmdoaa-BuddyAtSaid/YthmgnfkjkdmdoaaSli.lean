/- slices.Delete and slices.Insert of this dump, on rows of memory that the call owns. -/
import Derived.Test.YthmgnfkjkdmdoaaProg
import Derived.Test.YthmgnfkjkdmdoaaThread
import Derived.Test.YthmgnfkjkdmdoaaRow
import Derived.KernelRfl
import Derived.WalkSpells
import Derived.WalkLawsBesides
import Derived.Maps.AppendAt
import Derived.Lib.AppendZerosOnto
import Derived.Lib.Overlaps
import Derived.Lib.Hide
import Derived.Laws.Externs
set_option linter.unusedSimpArgs false
set_option linter.unusedVariables false
namespace Go.Proofs.Ythmgnfkjkdmdoaa
open Go Go.RowKit

theorem info31 : (Try.prog.info? 31).map (fun i => (i.zero, i.size, i.bytes)) = some (some (.agg #[.int .i64 0, .int .i64 0]), 2, 16) := by kernel_rfl
theorem info3 : (Try.prog.info? 3).map (fun i => (i.zero, i.size, i.bytes)) = some (some (.int .i64 0), 1, 8) := by kernel_rfl
theorem zero31 : ∀ w, (zeroValue 31).run Try.prog w = .ok (.agg #[.int .i64 0, .int .i64 0]) w := fun _ => by kernel_rfl
theorem zero3 : ∀ w, (zeroValue 3).run Try.prog w = .ok (.int .i64 0) w := fun _ => by kernel_rfl
theorem size31 : (Try.prog.info? 31).map (·.size) = some 2 := by kernel_rfl
theorem size3 : (Try.prog.info? 3).map (·.size) = some 1 := by kernel_rfl

set_option maxHeartbeats 1000000 in
set_option maxRecDepth 100000 in
theorem delete_blocks_cells (g n cap i : Nat) (cur : Array Value) (w : World) (hg : w.heap[g]? = some (.cells cur 31 (0, 0))) (hn : n ≤ cap) (hm : cap ≤ maxLen) (hs : cur.size = cap * 2) (hi : i < n)
    (h1 : ∀ u ∈ cur.toList.take (n * 2), u.oneCell' = true) :
    Calls Try.prog 58 #[.slice (some ⟨g, 0, none⟩) n cap, .int .i64 (i : Int), .int .i64 ((i : Int) + 1)] w fun e w' => e = .returned (.slice (some ⟨g, 0, none⟩) (i + (n - (i + 1))) cap) ∧
      w' = (w.drew.setRow g (Row.put (Row.put cur (i * 2) ((cur.toList.take (n * 2)).drop ((i + 1) * 2))) ((i + (n - (i + 1))) * 2) (Builtin.zeroCells #[.int .i64 0, .int .i64 0] (n - (i + (n - (i + 1))))).toList)) := by
  unfold maxLen at hm
  obtain ⟨i0, hi0, hz0, hz1, hz2⟩ := info_parts info31
  have hin : i + 1 ≤ n := hi
  obtain ⟨news, hnews⟩ : ∃ news, news = (cur.toList.take (n * 2)).drop ((i + 1) * 2) := ⟨_, rfl⟩
  have hlen : news.length = (n - (i + 1)) * 2 := by
    rw [hnews, List.length_drop, List.length_take, Array.length_toList, hs, Nat.min_eq_left (show n * 2 ≤ cap * 2 by omega)]
    omega
  have hl : Hid (news.length = (n - (i + 1)) * i0.size) := by
    rw [hz1]; exact hlen
  obtain ⟨A, hA, hsrc⟩ : ∃ A : Addr, (if cap = i + 1 then some (⟨g, 0, none⟩ : Addr) else some ⟨g, (i + 1) * 2, none⟩) = some A ∧ Hid (∀ t u, news[t]? = some u → w.drew.cell? (A.add t) = some u) := by
    by_cases h : cap = i + 1
    · refine ⟨_, by rw [if_pos h], fun t u hu => ?_⟩
      have : news.length = 0 := by omega
      rw [List.length_eq_zero_iff.1 this] at hu
      cases hu
    · refine ⟨_, by rw [if_neg h], fun t u hu => ?_⟩
      rw [Addr.add_lit]
      show w.cell? _ = _
      rw [hnews, List.getElem?_drop, List.getElem?_take] at hu
      split at hu
      · simpa [World.cell?, hg] using hu
      · cases hu
  have h1n : Hid (∀ u ∈ news, u.oneCell' = true) := fun u hu => h1 u (by rw [hnews] at hu; exact List.mem_of_mem_drop hu)
  have hr1 : Hid (∀ c, (Builtin.append_ #[26, 26] 26 #[.slice (some ⟨g, 0, none⟩) i cap, .slice (some A) (n - (i + 1)) c]).run Try.prog w.drew = .ok (.slice (some ⟨g, 0, none⟩) (i + (n - (i + 1))) cap) (w.drew.setRow g (Row.put cur (i * 2) news))) := fun c => by
    have := run_append_room (P := Try.prog) w.drew 26 26 31 i0 Try.underlying26 hi0 g i cap cur hg A (n - (i + 1)) c news hl.out hsrc.out h1n.out (by omega) (by rw [hz1, hlen, hs]; omega)
    rw [hz1] at this
    first | exact this | (simp only [Nat.mul_one] at this ⊢; exact this)
  have hg1 : (w.drew.setRow g (Row.put cur (i * 2) news)).heap[g]? = some (.cells (Row.put cur (i * 2) news) 31 (0, 0)) := Row.heap_setRow _ _ _ _ _ _ hg
  have hr2 : Hid (∀ c, (Builtin.clear_ #[26] 0 #[.slice (some ⟨g, (i + (n - (i + 1))) * 2, none⟩) (n - (i + (n - (i + 1)))) c]).run Try.prog (w.drew.setRow g (Row.put cur (i * 2) news)) = .ok (.tuple #[]) (w.drew.setRow g (Row.put (Row.put cur (i * 2) news) ((i + (n - (i + 1))) * 2) (Builtin.zeroCells #[.int .i64 0, .int .i64 0] (n - (i + (n - (i + 1))))).toList))) := fun c => by
    have := Row.run_clear_row (w.drew.setRow g (Row.put cur (i * 2) news)) 26 31 0 (.agg #[.int .i64 0, .int .i64 0]) 2 Try.underlying26 zero31 rfl g ((i + (n - (i + 1))) * 2) (n - (i + (n - (i + 1)))) c _ _ hg1
      (by rw [Row.size_put _ _ _ (by rw [hlen, hs]; omega), hs]; omega) (by
        rw [show n - (i + (n - (i + 1))) = 1 by omega]
        intro u hu
        simp [Builtin.zeroCells, Value.cells, Array.range_succ] at hu
        rcases hu with rfl | rfl <;> rfl)
    rw [Row.setRow_setRow] at this
    first | exact this | (simp only [Nat.mul_one] at this ⊢; exact this)
  rw [← hnews]
  generalize w.drew.setRow g (Row.put (Row.put cur (i * 2) news) ((i + (n - (i + 1))) * 2) (Builtin.zeroCells #[.int .i64 0, .int .i64 0] (n - (i + (n - (i + 1))))).toList) = W2 at *
  generalize w.drew.setRow g (Row.put cur (i * 2) news) = W1 at *
  have b1 : (i : Int) ≤ (i : Int) + 1 := by omega
  have b2 : (i : Int) + 1 ≤ (n : Int) := by omega
  have b3 : (0 : Int) ≤ (i : Int) := by omega
  have b4 : (n : Int) ≤ (cap : Int) := by omega
  have b5 : ((i : Int) == (i : Int) + 1) = false := by rw [beq_eq_false_iff_ne]; omega
  clear hg hg1 hnews hlen hs h1 hi0 hz0 hz1 hz2
  go_enter Try.func58, Try.ntmps58
  go_wp2_with fail
  refine Thr.drawn [(0, false), (1, false), (2, false), (3, false), (4, false), (5, false), (6, true), (7, false)] 8 (fun _ => True) (by kernel_rfl) (by kernel_rfl) (fun c a w d v h => by cases d <;> exact h) trivial ?_
  simp only [Thr.pick, Array.reduceGetElem?]
  iterate 6
    apply Thr.read rfl
    · intro w' hS
      go_simp
      (repeat rw [if_pos (by omega)])
      try with_reducible rfl
    simp only [Act.put, List.setIfInBounds_toArray, List.set_cons_zero, List.set_cons_succ, hA]
  apply Thr.act rfl
  intro K hK
  refine Row.wp_append (hr1.out _) rfl rfl rfl (hK _ _ trivial ?_)
  apply Thr.read rfl
  · intro w' hS
    go_simp
    try with_reducible rfl
  simp only [Act.put, List.setIfInBounds_toArray, List.set_cons_zero, List.set_cons_succ]
  refine Thr.done ?_
  go_wp2_with (refine Row.list_clear (hr2.out _) rfl rfl rfl ?_)
  go_ret
  exact ⟨rfl, rfl⟩

/-- slices.Delete(s, i, i+1) on a row of the call's own. -/
theorem delete_blocks {base n i : Nat} {v : Value} {xs : List Value} {w : World} (hown : w.ownsRow base 31 2 v n xs) (hi : i < n) (h1 : ∀ u ∈ xs, u.oneCell' = true) :
    Calls Try.prog 58 #[v, .int .i64 (i : Int), .int .i64 ((i : Int) + 1)] w fun e w' => ∃ v', e = .returned v' ∧ w'.ownsRow base 31 2 v' (n - 1) (xs.take (i * 2) ++ xs.drop ((i + 1) * 2)) ∧
      w.grownBy w' v.ownBlock ∧ v'.ownBlock = v.ownBlock := by
  rcases hown.2 with ⟨_, h0⟩ | ⟨g, cap, cur, rfl, hb, hg, hn, hm, hs, ht⟩
  · omega
  · refine (delete_blocks_cells g n cap i cur w hg hn hm hs hi (by rw [ht]; exact h1)).mono ?_
    rintro e w' ⟨rfl, rfl⟩
    have hl : (cur.toList.take (n * 2)).length = n * 2 := by rw [List.length_take, Array.length_toList, hs]; exact Nat.min_eq_left (Nat.mul_le_mul_right _ hn)
    have hlen : ((cur.toList.take (n * 2)).drop ((i + 1) * 2)).length = (n - (i + 1)) * 2 := by rw [List.length_drop, hl]; omega
    have hz : (Builtin.zeroCells #[.int .i64 0, .int .i64 0] (n - (i + (n - (i + 1))))).toList.length = 2 := by
      rw [show n - (i + (n - (i + 1))) = 1 by omega]; simp [Builtin.zeroCells]
    have hs1 : (Row.put cur (i * 2) ((cur.toList.take (n * 2)).drop ((i + 1) * 2))).size = cap * 2 := by rw [Row.size_put _ _ _ (by rw [hlen, hs]; omega), hs]
    refine ⟨_, rfl, ?_, ?_, rfl⟩
    · rw [show n - 1 = i + (n - (i + 1)) by omega]
      refine Row.own_mk (Row.heap_setRow w.drew g cur _ _ _ hg) hb (by omega) hm (by rw [Row.size_put _ _ _ (by rw [hz, hs1]; omega), hs1]) ?_
      rw [← ht]
      exact Row.delete_list cur.toList _ i n 2 (by omega) (by rw [Array.length_toList, hs]; omega) (by omega) (by omega) hlen
    · have := Row.grown_setRow w.drew g (Row.put (Row.put cur (i * 2) ((cur.toList.take (n * 2)).drop ((i + 1) * 2))) ((i + (n - (i + 1))) * 2) (Builtin.zeroCells #[.int .i64 0, .int .i64 0] (n - (i + (n - (i + 1))))).toList)
      exact ⟨this.os, this.tape, this.output, this.size, this.block⟩

set_option maxHeartbeats 1000000 in
set_option maxRecDepth 100000 in
theorem insert_blocks_end {base n : Nat} {v : Value} {xs x : List Value} {w : World} (hown : w.ownsRow base 31 2 v n xs) (vb : Nat) (hv : w.heap[vb]? = some (.cells x.toArray 31 (0, 0))) (hx : x.length = 2)
    (h1x : ∀ u ∈ x, u.oneCell' = true) (hbig : (n + 1) * 16 ≤ 140737488355328) (hbase : base ≤ w.heap.size) :
    Calls Try.prog 68 #[v, .int .i64 (n : Int), .slice (some ⟨vb, 0, none⟩) 1 1] w fun e w' => ∃ v', e = .returned v' ∧ w'.ownsRow base 31 2 v' (n + 1) (xs ++ x) ∧ w.grownBy w' v.ownBlock ∧ (v'.ownBlock = v.ownBlock ∨ v'.ownBlock = some w.heap.size) := by
  obtain ⟨i0, hi0, hz0, hz1, hz2⟩ := info_parts info31
  have hm : n ≤ 9223372036854775807 := by omega
  have hH : Hid (w.ownsRow base 31 2 v n xs) := hown
  have hN : Hid (∀ j u, x[j]? = some u → w.cell? ((⟨vb, 0, none⟩ : Addr).add j) = some u) := fun j u hu => by
    rw [Addr.add_lit]; simpa [World.cell?, hv] using hu
  have hX : Hid (x.length = 1 * 2) := by rw [Nat.one_mul]; exact hx
  have h1X : Hid (∀ u ∈ x, u.oneCell' = true) := h1x
  have b2 : (0 : Int) ≤ (n : Int) := by omega
  have b5 : ((n : Int) == (n : Int)) = true := by simp
  rcases hown.2 with ⟨rfl, rfl⟩ | ⟨g, cap, cur, rfl, hb, hg, hn, hcap, hs, ht⟩
  · clear hv h1x hown
    go_enter Try.func68, Try.ntmps68
    go_wp2_with (at_builtin; refine wpList_append_own_at _ rfl (.tmp 23) (.tmp 24) 26 rfl base 31 i0 (.agg #[.int .i64 0, .int .i64 0]) 2 16 Try.underlying26 hi0 hz0 hz1 hz2 rfl (by decide) _ 0 xs rfl hH.out ⟨vb, 0, none⟩ 1 1 x rfl hX.out hN.out h1X.out (by unfold maxLen; omega) (by omega) hbase ?_)
    all_goals
      intro v' w' hown' hgr hnil hat
      go_wp2
      go_ret
      exact ⟨v', rfl, hown', hgr, hat⟩
  · have b4 : (n : Int) ≤ (cap : Int) := by omega
    unfold maxLen at hcap
    clear hv h1x hown hg hs ht
    go_enter Try.func68, Try.ntmps68
    go_wp2_with (at_builtin; refine wpList_append_own_at _ rfl (.tmp 23) (.tmp 24) 26 rfl base 31 i0 (.agg #[.int .i64 0, .int .i64 0]) 2 16 Try.underlying26 hi0 hz0 hz1 hz2 rfl (by decide) _ n xs rfl hH.out ⟨vb, 0, none⟩ 1 1 x rfl hX.out hN.out h1X.out (by unfold maxLen; omega) (by omega) hbase ?_)
    all_goals
      intro v' w' hown' hgr hnil hat
      go_wp2
      go_ret
      exact ⟨v', rfl, hown', hgr, hat⟩

theorem overlaps_blocks (w : World) (a b : Addr) (la ca lb cb : Nat) (hne : a.block ≠ b.block) (tA tB : TypeId) (kA kB : Nat) (hsa : w.shape? a.block = some (tA, kA)) (hsb : w.shape? b.block = some (tB, kB)) (hkB : kB ≠ 0)
    (hfa : w.frozen? a = false) (hfe : w.frozen? { block := a.block, off := kA } = false) :
    (callFunc 82 #[.slice (some a) la ca, .slice (some b) lb cb]).run Try.prog w = .ok (.value (.bool false)) w := by
  rw [run_callFunc_extern Try.func82 (by kernel_rfl) (by kernel_rfl) (by kernel_rfl) (e := Extern.SlicesOverlaps.overlaps #[26, 26] #[4]) (by kernel_rfl),
    Lib.run_overlaps_apart w 26 4 31 Try.underlying26 2 (fun w => by have := size31; simp only [Option.map_eq_some_iff] at this; obtain ⟨i, hi, hs⟩ := this; simp [sizeOf, typeInfo, hi, hs]) a b la ca lb cb hne tA tB kA kB hsa hsb hkB hfa hfe]
  rfl

set_option maxHeartbeats 1000000 in
set_option maxRecDepth 100000 in
theorem insert_blocks_shift (g n cap i vb : Nat) (cur : Array Value) (x : List Value) (w : World) (hg : w.heap[g]? = some (.cells cur 31 (0, 0))) (hn : n + 1 ≤ cap) (hm : cap ≤ maxLen) (hs : cur.size = cap * 2) (hi : i < n)
    (h1 : ∀ u ∈ cur.toList.take (n * 2), u.oneCell' = true) (hv : w.heap[vb]? = some (.cells x.toArray 31 (0, 0))) (hx : x.length = 2) (h1x : ∀ u ∈ x, u.oneCell' = true) (hne : vb ≠ g) :
    Calls Try.prog 68 #[.slice (some ⟨g, 0, none⟩) n cap, .int .i64 (i : Int), .slice (some ⟨vb, 0, none⟩) 1 1] w fun e w' => e = .returned (.slice (some ⟨g, 0, none⟩) (n + 1) cap) ∧
      w' = w.drew.setRow g (Row.put (Row.put cur ((i + 1) * 2) ((cur.toList.take (n * 2)).drop (i * 2))) (i * 2) x) := by
  unfold maxLen at hm
  obtain ⟨i0, hi0, hz0, hz1, hz2⟩ := info_parts info31
  have hl0 : (cur.toList.take (n * 2)).length = n * 2 := by rw [List.length_take, Array.length_toList, hs]; exact Nat.min_eq_left (Nat.mul_le_mul_right _ (by omega))
  obtain ⟨news, hnews⟩ : ∃ news, news = (cur.toList.take (n * 2)).drop (i * 2) := ⟨_, rfl⟩
  have hlen : news.length = (n - i) * 2 := by rw [hnews, List.length_drop, hl0]; omega
  have hov := fun la ca lb cb => overlaps_blocks w ⟨vb, 0, none⟩ ⟨g, (i + 1) * 2, none⟩ la ca lb cb hne 31 31 2 (cap * 2) (by simp [World.shape?, hv, hx]) (by simp [World.shape?, hg, hs]) (by omega) (by simp [World.frozen?, hv]) (by simp [World.frozen?, hv])
  have m1 : Nat.min (n + 1 - i) (n + 1 - (i + 1)) = n - i := by show min _ _ = _; omega
  have m2 : Nat.min 1 (n + 1 - i) = 1 := by show min _ _ = _; omega
  have hr1 : Hid (∀ c c', (Builtin.copy_ #[26, 26] 3 #[.slice (some ⟨g, (i + 1) * 2, none⟩) (n + 1 - (i + 1)) c, .slice (some ⟨g, i * 2, none⟩) (n + 1 - i) c']).run Try.prog w.drew = .ok (goInt ((n - i : Nat) : Int)) (w.drew.setRow g (Row.put cur ((i + 1) * 2) news))) := fun c c' => by
    have := Row.run_copy_row (P := Try.prog) w.drew 26 26 3 31 2 Try.underlying26 size31 g ((i + 1) * 2) (n + 1 - (i + 1)) c ⟨g, i * 2, none⟩ (n + 1 - i) c' cur 31 news hg (by rw [m1]; exact hlen)
      (fun j u hu => by
        rw [Addr.add_lit]
        show w.cell? _ = _
        rw [hnews, List.getElem?_drop, List.getElem?_take] at hu
        split at hu
        · simpa [World.cell?, hg] using hu
        · cases hu)
      (fun u hu => h1 u (by rw [hnews] at hu; exact List.mem_of_mem_drop hu)) (by rw [hlen, hs]; omega)
    rw [m1] at this
    first | exact this | (simp only [Nat.mul_one] at this ⊢; exact this)
  have hg1 : (w.drew.setRow g (Row.put cur ((i + 1) * 2) news)).heap[g]? = some (.cells (Row.put cur ((i + 1) * 2) news) 31 (0, 0)) := Row.heap_setRow _ _ _ _ _ _ hg
  have hr2 : Hid (∀ c, (Builtin.copy_ #[26, 26] 3 #[.slice (some ⟨g, i * 2, none⟩) (n + 1 - i) c, .slice (some ⟨vb, 0, none⟩) 1 1]).run Try.prog (w.drew.setRow g (Row.put cur ((i + 1) * 2) news)) = .ok (goInt 1) (w.drew.setRow g (Row.put (Row.put cur ((i + 1) * 2) news) (i * 2) x))) := fun c => by
    have := Row.run_copy_row (P := Try.prog) (w.drew.setRow g (Row.put cur ((i + 1) * 2) news)) 26 26 3 31 2 Try.underlying26 size31 g (i * 2) (n + 1 - i) c ⟨vb, 0, none⟩ 1 1 _ 31 x hg1 (by rw [m2, Nat.one_mul]; exact hx)
      (fun j u hu => by
        rw [Addr.add_lit, World.cell?_of_block (Row.heap_setRow_other _ _ _ _ hne)]
        show w.cell? _ = _
        simpa [World.cell?, hv] using hu)
      h1x (by rw [hx, Row.size_put _ _ _ (by rw [hlen, hs]; omega), hs]; omega)
    rw [m2, Row.setRow_setRow] at this
    first | exact this | (simp only [Nat.mul_one] at this ⊢; exact this)
  rw [← hnews]
  generalize w.drew.setRow g (Row.put (Row.put cur ((i + 1) * 2) news) (i * 2) x) = W2 at *
  generalize w.drew.setRow g (Row.put cur ((i + 1) * 2) news) = W1 at *
  have a1 : ¬ ((i : Int) = (n : Int)) := by omega
  have a2 : ((i : Int) == (n : Int)) = false := by rw [beq_eq_false_iff_ne]; omega
  have a3 : ¬ ((cap : Int) < (n : Int) + 1) := by omega
  have a4 : ¬ (cap = i + 1) := by omega
  have a5 : ¬ (cap = i) := by omega
  have a6 : (0 : Int) ≤ (i : Int) + 1 := by omega
  have a7 : (i : Int) + 1 ≤ (n : Int) + 1 := by omega
  have a8 : (n : Int) + 1 ≤ (cap : Int) := by omega
  have a9 : (i : Int) ≤ (n : Int) + 1 := by omega
  have a10 : (i : Int) ≤ (n : Int) := by omega
  have a11 : ((i : Int) + 1).toNat = i + 1 := by omega
  have a12 : (0 : Int) ≤ (n : Int) + 1 := by omega
  have a13 : ((n : Int) + 1).toNat = n + 1 := by omega
  have a14 : IntKind.i64.wrap ((i : Int) + 1) = (i : Int) + 1 := by rw [IntKind.wrap_i64]; omega
  clear hg hg1 hnews hlen hs h1 hi0 hz0 hz1 hz2 hl0 m1 m2 hv hx h1x
  go_enter Try.func68, Try.ntmps68
  go_wp2_with (simp only [hov])
  refine Thr.drawn [(0, false), (1, false), (2, false), (3, false), (4, false), (5, false), (6, false), (7, false), (8, true)] 9 (fun _ => True) (by kernel_rfl) (by kernel_rfl) (fun c a w d v h => by cases d <;> exact h) trivial ?_
  simp only [Thr.pick, Array.reduceGetElem?]
  iterate 8
    apply Thr.read rfl
    · intro w' hS
      go_simp
      (repeat rw [if_pos (by omega)])
      try with_reducible rfl
    simp only [Act.put, List.setIfInBounds_toArray, List.set_cons_zero, List.set_cons_succ]
  apply Thr.act rfl
  intro K hK
  refine Row.wp_copy (hr1.out (cap - (i + 1)) (cap - i)) rfl (by simp [Act.eval]) (by simp [Act.eval]) (hK _ _ trivial ?_)
  refine Thr.done ?_
  simp only [Act.put, List.setIfInBounds_toArray, List.set_cons_zero, List.set_cons_succ]
  go_wp2_with (refine Row.list_copy (hr2.out _) rfl rfl rfl rfl ?_)
  go_ret
  exact ⟨rfl, rfl⟩

set_option maxHeartbeats 1000000 in
set_option maxRecDepth 100000 in
theorem insert_blocks_grow (g n cap i vb : Nat) (cur : Array Value) (x : List Value) (w : World) (hg : w.heap[g]? = some (.cells cur 31 (0, 0))) (hn : n ≤ cap) (hroom : cap < n + 1) (hbig : (n + 1) * 16 ≤ 140737488355328) (hs : cur.size = cap * 2) (hi : i < n)
    (h1 : ∀ u ∈ cur.toList.take (n * 2), u.oneCell' = true) (hv : w.heap[vb]? = some (.cells x.toArray 31 (0, 0))) (hx : x.length = 2) (h1x : ∀ u ∈ x, u.oneCell' = true) :
    Calls Try.prog 68 #[.slice (some ⟨g, 0, none⟩) n cap, .int .i64 (i : Int), .slice (some ⟨vb, 0, none⟩) 1 1] w fun e w' => ∃ G ROW W, n + 1 ≤ G ∧ G ≤ maxLen ∧ ROW.size = G * 2 ∧ ROW.toList.take (i * 2) = (cur.toList.take (n * 2)).take (i * 2) ∧
      e = .returned (.slice (some ⟨w.heap.size, 0, none⟩) (n + 1) G) ∧ W.heap[w.heap.size]? = some (.cells ROW 31 (0, 0)) ∧ w.grownBy W none ∧
      w' = W.setRow w.heap.size (Row.put (Row.put ROW (i * 2) x) ((i + 1) * 2) ((cur.toList.take (n * 2)).drop (i * 2))) := by
  obtain ⟨i0, hi0, hz0, hz1, hz2⟩ := info_parts info31
  have hl0 : (cur.toList.take (n * 2)).length = n * 2 := by rw [List.length_take, Array.length_toList, hs]; exact Nat.min_eq_left (Nat.mul_le_mul_right _ (by omega))
  obtain ⟨old, hold⟩ : ∃ old, old = cur.toList.take (n * 2) := ⟨_, rfl⟩
  rw [← hold] at hl0 h1 ⊢
  obtain ⟨news, hnews⟩ : ∃ news, news = old.drop (i * 2) := ⟨_, rfl⟩
  have hlen : news.length = (n - i) * 2 := by rw [hnews, List.length_drop, hl0]; omega
  have hcell : ∀ j u, old[j]? = some u → w.cell? ⟨g, j, none⟩ = some u := fun j u hu => by
    rw [hold, List.getElem?_take] at hu
    split at hu
    · simpa [World.cell?, hg] using hu
    · cases hu
  have hgl : g < w.heap.size := (Array.getElem?_eq_some_iff.1 hg).1
  have hvl : vb < w.heap.size := (Array.getElem?_eq_some_iff.1 hv).1
  have hfirst : (Builtin.firstCells i0.size i (.slice (some ⟨g, 0, none⟩) i cap)).run Try.prog w.drew = .ok (old.take (i * 2)).toArray w.drew := by
    rw [hz1]
    exact run_firstCells_some w.drew 2 i ⟨g, 0, none⟩ i cap (old.take (i * 2)) (by rw [List.length_take, hl0]; exact Nat.min_eq_left (by omega)) (fun j u hj => by
      rw [Addr.add_lit, Nat.zero_add]
      rw [List.getElem?_take] at hj
      split at hj
      · exact hcell j u hj
      · cases hj)
  have hik : i + (n + 1 - i) = n + 1 := by omega
  have hkk : (n : Int) + 1 - (i : Int) = ((n + 1 - i : Nat) : Int) := by omega
  obtain ⟨G, hG⟩ : ∃ G, G = grownCap w (n + 1) cap 31 := ⟨_, rfl⟩
  obtain ⟨ROW, hROW⟩ : ∃ ROW : Array Value, ROW = (old.take (i * 2)).toArray ++ Builtin.zeroCells #[.int .i64 0, .int .i64 0] (n + 1 - i) ++ Builtin.zeroCells #[.int .i64 0, .int .i64 0] (G - (n + 1)) := ⟨_, rfl⟩
  have hGn : n + 1 ≤ G := by rw [hG]; exact grownCap_ge w _ _ _
  have hGm : G ≤ maxLen := by rw [hG]; exact grownCap_le_maxLen w (n + 1) cap 31 (by unfold maxLen; omega)
  have hRs : ROW.size = G * 2 := by
    rw [hROW]
    simp only [Array.size_append, size_zeroCells, List.size_toArray, List.length_take, hl0, Nat.min_eq_left (show i * 2 ≤ n * 2 by omega), List.length_cons, List.length_nil]
    omega
  have hRt : ROW.toList.take (i * 2) = old.take (i * 2) := by
    rw [hROW]
    simp only [Array.toList_append]
    rw [List.append_assoc, List.take_append_of_le_length (by simp [hl0]; omega), List.take_of_length_le (by simp [hl0]; omega)]
  have hr0 : (Builtin.append_ #[26, 3] 26 #[.slice (some ⟨g, 0, none⟩) i cap, .int .i64 ((n : Int) + 1 - (i : Int))]).run Try.prog w = .ok (.slice (some ⟨w.heap.size, 0, none⟩) (n + 1) G) (w.drew.alloc (.cells ROW 31)) := by
    have h := Lib.run_append_grow_zeros w 26 3 26 31 i0 (.agg #[.int .i64 0, .int .i64 0]) .i64 .i64 Try.underlying26 Try.underlying3 hi0 hz0 (some ⟨g, 0, none⟩) i cap (old.take (i * 2)) hfirst (n + 1 - i) (by omega) (by omega) (by omega) (by omega) (by rw [hz2]; omega) (by rw [hz2, hik]; exact growslice_fits hroom hbig)
    rw [hik, ← hG] at h
    rw [hkk, hROW]
    exact h
  have hW1 : (w.drew.alloc (.cells ROW 31)).heap[w.heap.size]? = some (.cells ROW 31 (0, 0)) := heap_alloc_new w.drew _
  have hW1o : ∀ k, k < w.heap.size → (w.drew.alloc (.cells ROW 31)).heap[k]? = w.heap[k]? := fun k hk => heap_alloc_old w.drew _ hk
  have hgr : w.grownBy (w.drew.alloc (.cells ROW 31)) none := ⟨rfl, rfl, rfl, by simp [World.alloc], fun k hk _ => hW1o k hk⟩
  generalize w.drew.alloc (.cells ROW 31) = W1 at *
  have m1 : Nat.min (n - i) (n + 1 - (i + 1)) = n - i := by show min _ _ = _; omega
  have m2 : Nat.min 1 (n + 1 - i) = 1 := by show min _ _ = _; omega
  have hr1 : Hid (∀ c, (Builtin.copy_ #[26, 26] 3 #[.slice (some ⟨w.heap.size, i * 2, none⟩) (n + 1 - i) c, .slice (some ⟨vb, 0, none⟩) 1 1]).run Try.prog W1 = .ok (goInt 1) (W1.setRow w.heap.size (Row.put ROW (i * 2) x))) := fun c => by
    have := Row.run_copy_row (P := Try.prog) W1 26 26 3 31 2 Try.underlying26 size31 w.heap.size (i * 2) (n + 1 - i) c ⟨vb, 0, none⟩ 1 1 ROW 31 x hW1 (by rw [m2, Nat.one_mul]; exact hx)
      (fun j u hu => by
        rw [Addr.add_lit, World.cell?_of_block (hW1o vb hvl)]
        simpa [World.cell?, hv] using hu)
      h1x (by rw [hx, hRs]; omega)
    rw [m2] at this
    first | exact this | (simp only [Nat.mul_one] at this ⊢; exact this)
  have hsz1 : (Row.put ROW (i * 2) x).size = G * 2 := by rw [Row.size_put _ _ _ (by rw [hx, hRs]; omega), hRs]
  have hW2 : (W1.setRow w.heap.size (Row.put ROW (i * 2) x)).drew.heap[w.heap.size]? = some (.cells (Row.put ROW (i * 2) x) 31 (0, 0)) := Row.heap_setRow _ _ _ _ _ _ hW1
  have hr2 : Hid (∀ c c', (Builtin.copy_ #[26, 26] 3 #[.slice (some ⟨w.heap.size, (i + 1) * 2, none⟩) (n + 1 - (i + 1)) c, .slice (some ⟨g, i * 2, none⟩) (n - i) c']).run Try.prog (W1.setRow w.heap.size (Row.put ROW (i * 2) x)).drew = .ok (goInt ((n - i : Nat) : Int)) (W1.drew.setRow w.heap.size (Row.put (Row.put ROW (i * 2) x) ((i + 1) * 2) news))) := fun c c' => by
    have := Row.run_copy_row (P := Try.prog) (W1.setRow w.heap.size (Row.put ROW (i * 2) x)).drew 26 26 3 31 2 Try.underlying26 size31 w.heap.size ((i + 1) * 2) (n + 1 - (i + 1)) c ⟨g, i * 2, none⟩ (n - i) c' _ 31 news hW2 (by rw [m1]; exact hlen)
      (fun j u hu => by
        rw [Addr.add_lit]
        show (W1.setRow w.heap.size (Row.put ROW (i * 2) x)).cell? _ = _
        rw [World.cell?_of_block (Row.heap_setRow_other _ _ _ _ (by show g ≠ _; omega)), World.cell?_of_block (hW1o g hgl)]
        exact hcell _ _ (by rw [hnews, List.getElem?_drop] at hu; exact hu))
      (fun u hu => h1 u (by rw [hnews] at hu; exact List.mem_of_mem_drop hu)) (by rw [hlen, hsz1]; omega)
    rw [m1] at this
    first | rw [this] | (simp only [Nat.mul_one] at this ⊢; rw [this])
    congr 1
    have hx2 := Row.setRow_setRow W1.drew w.heap.size (Row.put ROW (i * 2) x) (Row.put (Row.put ROW (i * 2) x) ((i + 1) * 2) news)
    first | exact hx2 | (simp only [Nat.mul_one] at hx2 ⊢; exact hx2)
  have hfin : ∃ G' ROW' W, n + 1 ≤ G' ∧ G' ≤ maxLen ∧ ROW'.size = G' * 2 ∧ ROW'.toList.take (i * 2) = old.take (i * 2) ∧ (Ending.returned (.slice (some ⟨w.heap.size, 0, none⟩) (n + 1) G)) = .returned (.slice (some ⟨w.heap.size, 0, none⟩) (n + 1) G') ∧
      W.heap[w.heap.size]? = some (.cells ROW' 31 (0, 0)) ∧ w.grownBy W none ∧ W1.drew.setRow w.heap.size (Row.put (Row.put ROW (i * 2) x) ((i + 1) * 2) news) = W.setRow w.heap.size (Row.put (Row.put ROW' (i * 2) x) ((i + 1) * 2) (old.drop (i * 2))) :=
    ⟨G, ROW, W1.drew, hGn, hGm, hRs, hRt, rfl, hW1, ⟨hgr.os, hgr.tape, hgr.output, hgr.size, hgr.block⟩, by rw [hnews]⟩
  have HF := Lib.hid hfin
  clear hfin
  have HR0 := Lib.hid hr0
  clear hr0
  have hG63 : G ≤ 9223372036854775807 := by unfold maxLen at hGm; omega
  have a1 : ¬ ((i : Int) = (n : Int)) := by omega
  have a2 : ((i : Int) == (n : Int)) = false := by rw [beq_eq_false_iff_ne]; omega
  have a3 : (cap : Int) < (n : Int) + 1 := by omega
  have a4 : ¬ (G = i + 1) := by omega
  have a5 : ¬ (G = i) := by omega
  have a6 : (0 : Int) ≤ (i : Int) + 1 := by omega
  have a7 : (i : Int) + 1 ≤ (n : Int) + 1 := by omega
  have a9 : (i : Int) ≤ (n : Int) + 1 := by omega
  have a10 : (i : Int) ≤ (n : Int) := by omega
  have a11 : ((i : Int) + 1).toNat = i + 1 := by omega
  have a12 : ¬ (cap = i) := by omega
  have a14 : IntKind.i64.wrap ((i : Int) + 1) = (i : Int) + 1 := by rw [IntKind.wrap_i64]; omega
  have a15 : (i : Int) ≤ (cap : Int) := by omega
  have a16 : i ≤ cap := by omega
  have HN := Lib.hid hnews
  clear hg hnews hlen hs h1 hi0 hz0 hz1 hz2 hl0 m1 m2 hv hx h1x hkk hik hfirst hcell hROW hG hRs hRt hW1 hW1o hgr hsz1 hW2 hold HN
  generalize W1.drew.setRow w.heap.size (Row.put (Row.put ROW (i * 2) x) ((i + 1) * 2) news) = W3 at *
  generalize W1.setRow w.heap.size (Row.put ROW (i * 2) x) = W2 at *
  generalize w.heap.size = N at *
  go_enter Try.func68, Try.ntmps68
  go_wp2_with (first | (refine Row.list_append HR0.out rfl rfl rfl rfl ?_) | (refine Row.list_copy (hr1.out _) rfl rfl rfl rfl ?_))
  refine Thr.drawn [(0, false), (1, false), (2, false), (3, false), (4, false), (5, false), (6, false), (7, false), (8, true)] 9 (fun _ => True) (by kernel_rfl) (by kernel_rfl) (fun c a w d v h => by cases d <;> exact h) trivial ?_
  simp only [Thr.pick, Array.reduceGetElem?]
  iterate 8
    apply Thr.read rfl
    · intro w' hS
      go_simp
      (repeat rw [if_pos (by omega)])
      try with_reducible rfl
    simp only [Act.put, List.setIfInBounds_toArray, List.set_cons_zero, List.set_cons_succ]
  apply Thr.act rfl
  intro K hK
  refine Row.wp_copy (hr2.out (G - (i + 1)) (cap - i)) rfl (by simp [Act.eval]) (by simp [Act.eval]) (hK _ _ trivial ?_)
  refine Thr.done ?_
  simp only [Act.put, List.setIfInBounds_toArray, List.set_cons_zero, List.set_cons_succ]
  go_wp2_with fail
  go_ret
  exact HF.out

/-- slices.Insert(s, i, x) on a row of the call's own; x lies in a new block of its own. -/
theorem insert_blocks {base n i vb : Nat} {v : Value} {xs x : List Value} {w : World} (hown : w.ownsRow base 31 2 v n xs) (hi : i ≤ n) (hv : w.heap[vb]? = some (.cells x.toArray 31 (0, 0))) (hne : v.ownBlock ≠ some vb) (hx : x.length = 2)
    (h1 : ∀ u ∈ xs, u.oneCell' = true) (h1x : ∀ u ∈ x, u.oneCell' = true) (hbig : (n + 1) * 16 ≤ 140737488355328) (hbase : base ≤ w.heap.size) :
    Calls Try.prog 68 #[v, .int .i64 (i : Int), .slice (some ⟨vb, 0, none⟩) 1 1] w fun e w' => ∃ v', e = .returned v' ∧ w'.ownsRow base 31 2 v' (n + 1) (xs.take (i * 2) ++ x ++ xs.drop (i * 2)) ∧
      w.grownBy w' v.ownBlock ∧ (v'.ownBlock = v.ownBlock ∨ v'.ownBlock = some w.heap.size) := by
  have hxl := hown.1
  rcases Nat.lt_or_ge i n with hlt | hge
  · rcases hown.2 with ⟨_, h0⟩ | ⟨g, cap, cur, rfl, hb, hg, hn, hm, hs, ht⟩
    · omega
    · rcases Nat.lt_or_ge cap (n + 1) with hc | hc
      · refine (insert_blocks_grow g n cap i vb cur x w hg hn hc hbig hs hlt (by rw [ht]; exact h1) hv hx h1x).mono ?_
        rintro e w' ⟨G, ROW, W, hGn, hGm, hRs, hRt, rfl, hW, hgr, rfl⟩
        rw [ht] at hRt ⊢
        have hd : (xs.drop (i * 2)).length = (n - i) * 2 := by rw [List.length_drop, hxl]; omega
        have hs1 : (Row.put ROW (i * 2) x).size = G * 2 := by rw [Row.size_put _ _ _ (by rw [hx, hRs]; omega), hRs]
        refine ⟨_, rfl, Row.own_mk (Row.heap_setRow W _ _ _ _ _ hW) hbase hGn hGm (by rw [Row.size_put _ _ _ (by rw [hd, hs1]; omega), hs1]) ?_, ?_, .inr rfl⟩
        · rw [← hRt]
          exact Row.insert_list2 ROW.toList x _ i n 2 hx (by rw [Array.length_toList, hRs]; omega) hd (by omega)
        · have h2 := Row.grown_setRow W w.heap.size (Row.put (Row.put ROW (i * 2) x) ((i + 1) * 2) (xs.drop (i * 2)))
          exact ⟨h2.os.trans hgr.os, h2.tape.trans hgr.tape, h2.output.trans hgr.output, Nat.le_trans hgr.size h2.size, fun k hk _ => (h2.block k (Nat.lt_of_lt_of_le hk hgr.size) (fun e => by injection e with e; omega)).trans (hgr.block k hk (by simp))⟩
      · have hne' : vb ≠ g := fun e => hne (by rw [e]; rfl)
        refine (insert_blocks_shift g n cap i vb cur x w hg hc hm hs hlt (by rw [ht]; exact h1) hv hx h1x hne').mono ?_
        rintro e w' ⟨rfl, rfl⟩
        rw [ht]
        have hd : (xs.drop (i * 2)).length = (n - i) * 2 := by rw [List.length_drop, hxl]; omega
        have hs1 : (Row.put cur ((i + 1) * 2) (xs.drop (i * 2))).size = cap * 2 := by rw [Row.size_put _ _ _ (by rw [hd, hs]; omega), hs]
        refine ⟨_, rfl, Row.own_mk (Row.heap_setRow w.drew g cur _ _ _ hg) hb hc hm (by rw [Row.size_put _ _ _ (by rw [hx, hs1]; omega), hs1]) ?_, ?_, .inl rfl⟩
        · rw [show xs.take (i * 2) = cur.toList.take (i * 2) by rw [← ht, List.take_take, Nat.min_eq_left (by omega)]]
          exact Row.insert_list1 cur.toList x _ i n 2 hx (by rw [Array.length_toList, hs]; omega) hd (by omega)
        · have := Row.grown_setRow w.drew g (Row.put (Row.put cur ((i + 1) * 2) (xs.drop (i * 2))) (i * 2) x)
          exact ⟨this.os, this.tape, this.output, this.size, this.block⟩
  · obtain rfl : i = n := by omega
    refine (insert_blocks_end hown vb hv hx h1x hbig hbase).mono ?_
    rintro e w' ⟨v', rfl, ho, hgr, hat⟩
    refine ⟨v', rfl, ?_, hgr, hat⟩
    rw [List.take_of_length_le (by omega), List.drop_eq_nil_of_le (by omega), List.append_nil]
    exact ho

end Go.Proofs.Ythmgnfkjkdmdoaa
