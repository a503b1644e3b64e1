/- Contract: around. -/
import Derived.Test.YthmgnfkjkdmdoaaLift
import Derived.Test.YthmgnfkjkdmdoaaBit
import Derived.Deep.LoopGhost
import Derived.Laws.ResultCell
set_option linter.unusedSimpArgs false
set_option linter.unusedVariables false
namespace Go.Proofs.Ythmgnfkjkdmdoaa
open Go Go.RowKit Bud

/-- What around answers. -/
def arV : Option (Nat × Nat) → Value
  | some (t, q) => .tuple #[.agg #[.int .i64 (t : Int), .int .i64 (q : Int)], .bool true]
  | none => .tuple #[.agg #[.int .i64 0, .int .i64 0], .bool false]

theorem aroundF_hit {n : Nat} {f : Nat → List Nat} {s o : Nat} (h1 : o ≤ n) (h2 : s / 2 ^ o * 2 ^ o ∈ f o) : aroundF n f s o = some (s / 2 ^ o * 2 ^ o, o) := by rw [aroundF, dif_pos h1, if_pos h2]
theorem aroundF_miss {n : Nat} {f : Nat → List Nat} {s o : Nat} (h1 : o ≤ n) (h2 : s / 2 ^ o * 2 ^ o ∉ f o) : aroundF n f s o = aroundF n f s (o + 1) := by rw [aroundF, dif_pos h1, if_neg h2]
theorem aroundF_end {n : Nat} {f : Nat → List Nat} {s o : Nat} (h1 : ¬ o ≤ n) : aroundF n f s o = none := by rw [aroundF, dif_neg h1]

set_option maxHeartbeats 4000000 in
set_option maxRecDepth 100000 in
theorem around_calls {w : World} {yb : Nat} {cs : Array Value} {y : Yd} (h : YardAt w yb cs y) (s o : Nat) (ho : o ≤ 4294967296) (hs : s < 4294967296) (hsrt : ∀ q, SortK id (y.free q)) (hl : ∀ q, (y.free q).length ≤ 1073741824) :
    Calls Try.prog 42 #[.pointer (some ⟨yb, 0, none⟩), .agg #[.int .i64 (s : Int), .int .i64 (o : Int)]] w fun e w' => e = .returned (arV (aroundF y.n y.free s o)) ∧ Below w.heap.size w w' := by
  have hle := h.le
  obtain ⟨R, hR⟩ : ∃ R, R = aroundF y.n y.free s o := ⟨_, rfl⟩
  rw [← hR]
  have HR := Lib.hid hR
  clear hR
  obtain ⟨B, hB⟩ : ∃ B, B = w.heap.size := ⟨_, rfl⟩
  have hb1 : ((w.alloc (.cells #[.int .i64 (s : Int), .int .i64 (o : Int)] 31)).alloc (.cells #[.int .i64 0, .int .i64 0] 31)).heap[B]? = some (.cells #[.int .i64 (s : Int), .int .i64 (o : Int)] 31 (0, 0)) := by
    rw [hB, heap_alloc_old _ _ (by simp)]; exact box_heap _ _ _
  have hb2 : ((w.alloc (.cells #[.int .i64 (s : Int), .int .i64 (o : Int)] 31)).alloc (.cells #[.int .i64 0, .int .i64 0] 31)).heap[B + 1]? = some (.cells #[.int .i64 0, .int .i64 0] 31 (0, 0)) := by
    have := box_heap (w.alloc (.cells #[.int .i64 (s : Int), .int .i64 (o : Int)] 31)) #[.int .i64 0, .int .i64 0] 31
    rwa [show (w.alloc (.cells #[.int .i64 (s : Int), .int .i64 (o : Int)] 31)).heap.size = B + 1 by simp [hB]] at this
  have hbl : Below w.heap.size w ((w.alloc (.cells #[.int .i64 (s : Int), .int .i64 (o : Int)] 31)).alloc (.cells #[.int .i64 0, .int .i64 0] 31)) := (below_alloc' w _).alloc (by simp) _
  obtain ⟨c0, c1⟩ := two_cells hb1
  go_enter Try.func42, Try.ntmps42
  go_wp2_with fail
  rw [← hB]
  go_loopg [6] (y.n + 1 - o) (fun g s6 wr => ∃ ok : Nat, s6 = .int .i64 (ok : Int) ∧ Below w.heap.size w wr ∧ wr.heap[B]? = some (.cells #[.int .i64 (s : Int), .int .i64 (o : Int)] 31 (0, 0)) ∧ wr.heap[B + 1]? = some (.cells #[.int .i64 0, .int .i64 0] 31 (0, 0)) ∧
    ok ≤ 4294967296 ∧ R = aroundF y.n y.free s ok ∧ y.n + 1 - ok ≤ g)
  case atStart => exact ⟨o, rfl, hbl, hb1, hb2, ho, HR.out, Nat.le_refl _⟩
  case round =>
    clear hb1 hb2 hbl c0 c1
    obtain ⟨ok, rfl, hbl, hb1, hb2, hok, hRk, hgk⟩ := hrel
    have hy := h.below hbl
    have q0 : wr.cell? ⟨yb, 0, none⟩ = some (.int .i64 (y.n : Int)) := hy.order_cell
    obtain ⟨c0, c1⟩ := two_cells hb1
    obtain ⟨p0, p1⟩ := two_cells hb2
    have d0 := two_frozen hb2 0
    have d1 := two_frozen hb2 1
    have HK := Lib.hid hRk
    have HB := Lib.hid hB
    clear hRk hB
    by_cases hlt : ok ≤ y.n
    · have hlt' : (ok : Int) ≤ (y.n : Int) := by omega
      have ho10 : ok ≤ 10 := by omega
      obtain ⟨P, hP⟩ : ∃ P, P = 2 ^ ok := ⟨_, rfl⟩
      have hP0 : 0 < P := by rw [hP]; exact pow_pos' ok
      have hPl : P ≤ 1024 := by rw [hP]; exact Nat.pow_le_pow_right (by omega) (show ok ≤ 10 by omega)
      have hsz : ∀ W, Calls Try.prog 54 #[.int .i64 (ok : Int)] W fun e w' => e = .returned (.int .i64 (P : Int)) ∧ w' = W := fun W => by rw [hP]; exact size_calls ok (by omega) W
      obtain ⟨t, ht⟩ : ∃ t, t = s / 2 ^ ok * 2 ^ ok := ⟨_, rfl⟩
      have hts : t ≤ s := by rw [ht]; exact Nat.div_mul_le_self _ _
      have hp1 : IntKind.i64.wrap ((P : Int) - 1) = (P : Int) - 1 := by rw [IntKind.wrap_i64]; omega
      have hbt : bits .andNot .i64 (s : Int) ((P : Int) - 1) = (t : Int) := by
        have := andNot_i64 s ok (by omega) ho10
        rw [← ht, ← hP] at this
        rwa [show ((P - 1 : Nat) : Int) = (P : Int) - 1 by omega] at this
      have HT := Lib.hid ht
      clear hP ht
      obtain ⟨a, c, hf, hn, hc, hg⟩ := own_form (hy.free ok (by omega))
      have ho1 : OwnN wr (.slice a (y.free ok).length c) (y.free ok) := by rw [← hf]; exact hy.free ok (by omega)
      have c2 : wr.cell? ⟨yb, 1 + ok, none⟩ = some (.slice a (y.free ok).length c) := by rw [← hf]; exact hy.cell (1 + ok) (by omega)
      have i0 : (0 : Int) ≤ (ok : Int) := by omega
      have i1 : (ok : Int) < 11 := by omega
      have HF := Lib.hid hf
      clear hf
      obtain ⟨l, hfl⟩ : ∃ l, l = y.free ok := ⟨_, rfl⟩
      have hso := hsrt ok
      have hln := hl ok
      rw [← hfl] at ho1 c2 hso hln
      have HFL := Lib.hid hfl
      clear hfl
      have hsr := search_own ho1 hso (by omega) t
      obtain ⟨hm, hhm⟩ : ∃ hm, hm = decide (t ∈ l) := ⟨_, rfl⟩
      rw [← hhm] at hsr
      have HM := Lib.hid hhm
      have hsr2 := fun W hW => search_own (w := W) (v := .slice a l.length c) (l := l) hW hso (by omega) t
      rw [← hhm] at hsr2
      clear hhm
      go_wp2_with fail
      refine Thr.drawn [(0, false), (1, false), (2, false), (3, true), (4, false), (5, false), (6, false)] 7
        (fun w' => w'.cell? ⟨B, 0, none⟩ = some (.int .i64 (s : Int))) (by kernel_rfl) (by kernel_rfl) (fun c a w d v h => by cases d <;> exact h) c0 ?_
      simp only [Thr.pick, Array.reduceGetElem?]
      iterate 3
        apply Thr.read rfl
        · intro w' hS
          go_simp
          (repeat rw [if_pos (by omega)])
          try with_reducible rfl
        simp only [Act.put, List.setIfInBounds_toArray, List.set_cons_zero, List.set_cons_succ]
      apply Thr.act rfl
      intro K hK
      go_simp
      refine (hsz _).mono ?_
      rintro e w' ⟨rfl, rfl⟩
      refine hK _ _ c0 ?_
      clear hK K
      try simp only [Act.put, List.setIfInBounds_toArray, List.set_cons_zero, List.set_cons_succ]
      iterate 3
        apply Thr.read rfl
        · intro w' hS
          go_simp
          (repeat rw [if_pos (by omega)])
          try with_reducible rfl
        simp only [Act.put, List.setIfInBounds_toArray, List.set_cons_zero, List.set_cons_succ]
      refine Thr.done ?_
      go_wp2_with fail
      refine (hsr2 wr.drew ho1).mono ?_
      rintro e w' ⟨rfl, q, rfl⟩
      cases hm with
      | true =>
        have hin : t ∈ l := by have := HM.out; simpa using this.symm
        have hans : R = some (t, ok) := by
          rw [HK.out, aroundF_hit hlt (by rw [← HT.out, ← HFL.out]; exact hin), ← HT.out]
        have HA := Lib.hid hans
        go_wp2_with fail
        (try simp only [Exit.inBlock, Exit.then])
        have hbf : Below w.heap.size w (((wr.drewN (1 + q)).setCell ⟨B + 1, 0, none⟩ (.int .i64 (t : Int))).setCell ⟨B + 1, 1, none⟩ (.int .i64 (ok : Int))) := ((hbl.trans ((below_drewN' wr (1 + q)).mono hbl.size)).setCell (by show _ ≤ B + 1; have := HB.out; omega) _).setCell (by show _ ≤ B + 1; have := HB.out; omega) _
        obtain ⟨e0, e1⟩ := two_cells (two_set (c := .int .i64 (t : Int)) (d := .int .i64 (ok : Int)) (show (wr.drewN (1 + q)).heap[B + 1]? = _ from hb2))
        refine bodyPost_ret (v := arV (some (t, ok))) ?_ rfl ⟨by rw [HA.out], hbf⟩
        rw [results_cell_tmp rfl]
        clear hbf
        generalize (((wr.drewN (1 + q)).setCell ⟨B + 1, 0, none⟩ (.int .i64 (t : Int))).setCell ⟨B + 1, 1, none⟩ (.int .i64 (ok : Int))) = W5 at *
        go_simp
        rfl
      | false =>
        have hin : t ∉ l := by have := HM.out; simpa using this.symm
        have hans : R = aroundF y.n y.free s (ok + 1) := by
          rw [HK.out, aroundF_miss hlt (by rw [← HT.out, ← HFL.out]; exact hin)]
        have HA := Lib.hid hans
        go_wp2_with fail
        rw [show (ok : Int) + 1 = ((ok + 1 : Nat) : Int) by omega]
        go_roundg (gk - 1)
        case measure => omega
        case rel =>
          exact ⟨ok + 1, rfl, hbl.trans ((below_drewN' wr (1 + q)).mono hbl.size), hb1, hb2, by omega, HA.out, by omega⟩
    · have hlt' : ¬ ((ok : Int) ≤ (y.n : Int)) := by omega
      have hans : R = none := by rw [HK.out, aroundF_end hlt]
      have HA := Lib.hid hans
      go_wp2_with fail
      (try simp only [Exit.inBlock, Exit.then])
      have hbf : Below w.heap.size w ((wr.setCell ⟨B + 1, 0, none⟩ (.int .i64 0)).setCell ⟨B + 1, 1, none⟩ (.int .i64 0)) := (hbl.setCell (by show _ ≤ B + 1; have := HB.out; omega) _).setCell (by show _ ≤ B + 1; have := HB.out; omega) _
      obtain ⟨e0, e1⟩ := two_cells (two_set (c := .int .i64 0) (d := .int .i64 0) hb2)
      refine bodyPost_ret (v := arV none) ?_ rfl ⟨rfl, hbf⟩
      rw [results_cell_tmp rfl]
      clear hbf
      generalize ((wr.setCell ⟨B + 1, 0, none⟩ (.int .i64 0)).setCell ⟨B + 1, 1, none⟩ (.int .i64 0)) = W5 at *
      go_simp
      rfl
end Go.Proofs.Ythmgnfkjkdmdoaa
