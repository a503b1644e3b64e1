/- Contracts: is, Held. -/
import Derived.Test.YthmgnfkjkdmdoaaModel
import Derived.Test.YthmgnfkjkdmdoaaOpen
import Derived.Laws.ResultCell
set_option linter.unusedSimpArgs false
set_option linter.unusedVariables false
namespace Go.Proofs.Ythmgnfkjkdmdoaa
open Go Go.RowKit Bud

def isY (y : Yd) (x : Int) : Bool := decide (0 ≤ x ∧ x < ((2 ^ y.n : Nat) : Int))

set_option maxHeartbeats 4000000 in
set_option maxRecDepth 100000 in
theorem is_calls {w : World} {yb : Nat} {cs : Array Value} {y : Yd} (h : YardAt w yb cs y) (x : Int) :
    Calls Try.prog 39 #[.pointer (some ⟨yb, 0, none⟩), .int .i64 x] w fun e w' => e = .returned (.bool (isY y x)) ∧ w' = w := by
  have q0 : w.cell? ⟨yb, 0, none⟩ = some (.int .i64 (y.n : Int)) := h.order_cell
  obtain ⟨N, hN⟩ : ∃ N, N = 2 ^ y.n := ⟨_, rfl⟩
  have hszn : ∀ W, Calls Try.prog 54 #[.int .i64 (y.n : Int)] W fun e w' => e = .returned (.int .i64 (N : Int)) ∧ w' = W := fun W => by rw [hN]; exact size_calls y.n (by have := h.le; omega) W
  have hr : isY y x = decide (0 ≤ x ∧ x < (N : Int)) := by rw [hN]; rfl
  rw [hr]
  clear hr hN
  by_cases h1 : 0 ≤ x
  · have g1 : decide (x ≥ 0) = true := by simpa using h1
    have g2 : decide (0 ≤ x ∧ x < (N : Int)) = decide (x < (N : Int)) := by simp [h1]
    rw [g2]
    clear g2
    go_enter Try.func39, Try.ntmps39
    go_wp2_with fail
    refine (hszn _).mono ?_
    rintro e w' ⟨rfl, rfl⟩
    go_wp2_with fail
    go_ret
    exact ⟨rfl, rfl⟩
  · have g1 : decide (x ≥ 0) = false := by simpa using h1
    have g2 : decide (0 ≤ x ∧ x < (N : Int)) = false := by simp [h1]
    rw [g2]
    clear g2
    go_enter Try.func39, Try.ntmps39
    go_wp2_with fail
    go_ret
    exact ⟨rfl, rfl⟩

/-- In which taken block a worker is. -/
def heldY (l : List Blk) (x : Int) : Option Blk := l.find? fun b => inB b x
def hvV : Option Blk → Value
  | some b => .tuple #[.agg #[.int .i64 (b.s : Int), .int .i64 (b.o : Int)], .bool true]
  | none => .tuple #[.agg #[.int .i64 0, .int .i64 0], .bool false]

set_option maxHeartbeats 4000000 in
set_option maxRecDepth 100000 in
theorem held_calls {w : World} {yb : Nat} {cs : Array Value} {y : Yd} (h : YardAt w yb cs y) (hb : ∀ b ∈ y.taken, b.o ≤ 10 ∧ b.s < 4294967296) (hl : y.taken.length ≤ 1073741824) (x : Int) :
    Calls Try.prog 11 #[.pointer (some ⟨yb, 0, none⟩), .int .i64 x] w fun e w' => e = .returned (hvV (heldY y.taken x)) ∧ Below w.heap.size w w' := by
  obtain ⟨a, c, hf, hn, hc, hg⟩ := own_form h.taken
  have ho1 : OwnB w (.slice a y.taken.length c) y.taken := by rw [← hf]; exact h.taken
  have c2 : w.cell? ⟨yb, 12, none⟩ = some (.slice a y.taken.length c) := by rw [← hf]; exact h.cell 12 (by omega)
  clear hf
  obtain ⟨l, hll⟩ : ∃ l, l = y.taken := ⟨_, rfl⟩
  rw [← hll] at ho1 c2 hn hg hb hl ⊢
  clear hll
  obtain ⟨n, hnl⟩ : ∃ n, n = l.length := ⟨_, rfl⟩
  rw [← hnl] at ho1 c2 hn hg hl
  obtain ⟨R, hR⟩ : ∃ R, R = heldY l x := ⟨_, rfl⟩
  rw [← hR]
  have HR := Lib.hid hR
  have HN := Lib.hid hnl
  have HBK := Lib.hid hb
  clear hR hnl hb
  obtain ⟨B, hB⟩ : ∃ B, B = w.heap.size := ⟨_, rfl⟩
  have hb1 : (w.alloc (.cells #[.int .i64 0, .int .i64 0] 31)).heap[B]? = some (.cells #[.int .i64 0, .int .i64 0] 31 (0, 0)) := by
    rw [hB]; exact box_heap _ _ _
  have hbl : Below w.heap.size w (w.alloc (.cells #[.int .i64 0, .int .i64 0] 31)) := below_alloc' w _
  have c3 := cell_alloc c2 (.cells #[.int .i64 0, .int .i64 0] 31)
  have hyl := h.lt
  go_enter Try.func11, Try.ntmps11
  go_wp2_with fail
  rw [← hB]
  go_loopg [16] n (fun g s16 wr => ∃ k : Nat, s16 = .int .i64 (k : Int) ∧ k ≤ n ∧ n - k ≤ g ∧ Below w.heap.size w wr ∧ wr.heap[B]? = some (.cells #[.int .i64 0, .int .i64 0] 31 (0, 0)) ∧ R = heldY (l.drop k) x)
  case atStart => exact ⟨0, rfl, Nat.zero_le _, by omega, hbl, hb1, by rw [HR.out]; rfl⟩
  case round =>
    clear hb1 hbl c3
    obtain ⟨k, rfl, hk, hgk, hbl, hb1, hRk⟩ := hrel
    have HK := Lib.hid hRk
    have HB := Lib.hid hB
    clear hRk hB
    have hlt0 : B < wr.heap.size := (Array.getElem?_eq_some_iff.1 hb1).1
    by_cases hlt : k < n
    · have hlt' : (k : Int) < (n : Int) := by omega
      obtain ⟨g, rfl⟩ := hg.resolve_left (by omega)
      have i0 : (0 : Int) ≤ (k : Int) := by omega
      obtain ⟨b, hbk⟩ : ∃ b, l[k]? = some b := ⟨_, List.getElem?_eq_getElem (by have := HN.out; omega)⟩
      obtain ⟨e0, e1⟩ := ho1.two HN.out k b hbk
      replace e0 := (hbl.cell (p := ⟨g, k * 2, none⟩) (World.block_lt_of_cell? w _ e0)).trans e0
      replace e1 := (hbl.cell (p := ⟨g, k * 2 + 1, none⟩) (World.block_lt_of_cell? w _ e1)).trans e1
      have hbd := HBK.out b (List.mem_of_getElem? hbk)
      have hdr : l.drop k = b :: l.drop (k + 1) := by
        obtain ⟨h1, rfl⟩ := List.getElem?_eq_some_iff.1 hbk
        exact List.drop_eq_getElem_cons h1
      have hin := in_calls b x
      obtain ⟨r, hr⟩ : ∃ r, r = inB b x := ⟨_, rfl⟩
      rw [← hr] at hin
      have HRR := Lib.hid hr
      have HDR := Lib.hid hdr
      obtain ⟨s, o⟩ := b
      simp only at e0 e1 hbd hin
      have hin2 := fun W => hin W hbd.1 hbd.2
      have hb2 := box_heap wr #[.int .i64 (s : Int), .int .i64 (o : Int)] 31
      have hb3 : (wr.alloc (.cells #[.int .i64 (s : Int), .int .i64 (o : Int)] 31)).heap[B]? = some (.cells #[.int .i64 0, .int .i64 0] 31 (0, 0)) := by rw [heap_alloc_old _ _ hlt0]; exact hb1
      have hbl2 : Below w.heap.size w (wr.alloc (.cells #[.int .i64 (s : Int), .int .i64 (o : Int)] 31)) := hbl.trans ((below_alloc' wr _).mono hbl.size)
      clear hbk hbd hr hdr hin hb1
      go_wp2_with fail
      refine (hin2 _).mono ?_
      rintro e w2 ⟨rfl, hbl3⟩
      have h4 : (wr.alloc (.cells #[.int .i64 (s : Int), .int .i64 (o : Int)] 31)).heap.size = wr.heap.size + 1 := by simp
      replace hb2 := (hbl3.block wr.heap.size (by omega)).trans hb2
      replace hb3 := (hbl3.block B (by omega)).trans hb3
      have hbl4 : Below w.heap.size w w2 := hbl2.trans (hbl3.mono hbl2.size)
      cases r with
      | true =>
        have hans : R = some ⟨s, o⟩ := by rw [HK.out, HDR.out, heldY, List.find?_cons_of_pos]; exact HRR.out.symm
        have HA := Lib.hid hans
        obtain ⟨d0, d1⟩ := two_cells hb2
        have f0 := two_frozen hb3 0
        obtain ⟨p0, p1⟩ := two_cells hb3
        have f1 := two_frozen hb3 1
        clear hans c2 e0 e1 hbl2 hbl3 hbl
        go_wp2_with fail
        (try simp only [Exit.inBlock, Exit.then])
        obtain ⟨k0, k1⟩ := two_cells (two_set (c := .int .i64 (s : Int)) (d := .int .i64 (o : Int)) hb3)
        have hbf := (hbl4.setCell (p := ⟨B, 0, none⟩) (Nat.le_of_eq HB.out.symm) (.int .i64 (s : Int))).setCell (p := ⟨B, 1, none⟩) (Nat.le_of_eq HB.out.symm) (.int .i64 (o : Int))
        refine bodyPost_ret (v := hvV (some ⟨s, o⟩)) ?_ rfl ⟨by rw [HA.out], hbf⟩
        rw [results_cell_tmp rfl]
        clear hbf
        generalize ((w2.setCell ⟨B, 0, none⟩ (.int .i64 (s : Int))).setCell ⟨B, 1, none⟩ (.int .i64 (o : Int))) = W5 at *
        go_simp
        rfl
      | false =>
        have hans : R = heldY (l.drop (k + 1)) x := by rw [HK.out, HDR.out, heldY, List.find?_cons_of_neg]; · rfl
                                                       · rw [← HRR.out]; simp
        have HA := Lib.hid hans
        clear hans c2 e0 e1 hbl2 hbl3 hbl
        go_wp2_with fail
        rw [show (k : Int) + 1 = ((k + 1 : Nat) : Int) by omega]
        go_roundg (gk - 1)
        case measure => omega
        case rel => exact ⟨k + 1, rfl, by omega, by omega, hbl4, hb3, HA.out⟩
    · have hlt' : ¬ ((k : Int) < (n : Int)) := by omega
      have hans : R = none := by rw [HK.out, List.drop_eq_nil_of_le (by have := HN.out; omega)]; rfl
      have HA := Lib.hid hans
      have f0 := two_frozen hb1 0
      obtain ⟨p0, p1⟩ := two_cells hb1
      have f1 := two_frozen hb1 1
      clear hans
      go_wp2_with fail
      (try simp only [Exit.inBlock, Exit.then])
      obtain ⟨k0, k1⟩ := two_cells (two_set (c := .int .i64 0) (d := .int .i64 0) hb1)
      have hbf := (hbl.setCell (p := ⟨B, 0, none⟩) (Nat.le_of_eq HB.out.symm) (.int .i64 0)).setCell (p := ⟨B, 1, none⟩) (Nat.le_of_eq HB.out.symm) (.int .i64 0)
      refine bodyPost_ret (v := hvV none) ?_ rfl ⟨by rw [HA.out], hbf⟩
      rw [results_cell_tmp rfl]
      clear hbf
      generalize ((wr.setCell ⟨B, 0, none⟩ (.int .i64 0)).setCell ⟨B, 1, none⟩ (.int .i64 0)) = W5 at *
      go_simp
      rfl
end Go.Proofs.Ythmgnfkjkdmdoaa
