/- slices.Sort of a list of numbers of 32 bits that is sorted already, of 12 at most: it stays. -/
import Derived.Test.YtnokmbjgfglaoaaUnify
set_option linter.unusedSimpArgs false
set_option linter.unusedVariables false
namespace Go.Proofs.Ytnokmbjgfglaoaa
open Go Go.RowKit Go.Lib Go.Sort

def uv (l : List Nat) : List Value := l.map fun (x : Nat) => Value.int .u32 (x : Int)
def OwnU (w : World) (v : Value) (l : List Nat) : Prop := w.ownsRow 0 30 1 v l.length (uv l)
theorem uv_get (l : List Nat) (j x : Nat) (h : l[j]? = some x) : (uv l)[j]? = some (.int .u32 (x : Int)) := by simp [uv, h]
theorem OwnU.cell {w : World} {g c n : Nat} {l : List Nat} (h : OwnU w (.slice (some ⟨g, 0, none⟩) n c) l) (hn : n = l.length) (j x : Nat) (hj : l[j]? = some x) : w.cell? ⟨g, j, none⟩ = some (.int .u32 (x : Int)) := by
  subst hn
  exact own_cells h _ _ (uv_get l j x hj)

theorem less_calls (x y : Nat) (w : World) : Calls Try.prog 64 #[.int .u32 (x : Int), .int .u32 (y : Int)] w fun e w' => e = .returned (.bool (decide ((x : Int) < (y : Int)))) ∧ w' = w := by
  go_enter Try.func64, Try.ntmps64
  go_wp2
  all_goals
    go_ret
    first
      | exact ⟨rfl, rfl⟩
      | (exact ⟨by simp [*], rfl⟩)

set_option maxHeartbeats 4000000 in
set_option maxRecDepth 100000 in
theorem ins_sorted {w : World} {g c : Nat} {l : List Nat} (h : OwnU w (.slice (some ⟨g, 0, none⟩) l.length c) l) (hs : l.Pairwise (· ≤ ·)) (hl : l.length ≤ 12) (h0 : l.length ≠ 0) :
    Calls Try.prog 58 #[.slice (some ⟨g, 0, none⟩) l.length c, .int .i64 0, .int .i64 (l.length : Int)] w fun e w' => e = .returned (.tuple #[]) ∧ ∃ q, w' = w.drewN q := by
  obtain ⟨L, hL⟩ : ∃ L, L = l.length := ⟨_, rfl⟩
  have HO := Lib.hid h
  have HS := Lib.hid hs
  have HL := Lib.hid hL
  rw [← hL] at hl h0 ⊢
  clear h hs hL
  go_enter Try.func58, Try.ntmps58
  go_wp2_with fail
  go_loopg [6] 13 (fun k s6 wr => ∃ i q : Nat, s6 = .int .i64 (i : Int) ∧ 1 ≤ i ∧ i ≤ L ∧ L - i ≤ k ∧ wr = w.drewN q)
  case atStart => exact ⟨1, 0, rfl, by omega, by omega, by omega, rfl⟩
  case round =>
    obtain ⟨i, q, rfl, hi1, hiL, hig, hwr⟩ := hrel
    have HWR := Lib.hid hwr
    clear hwr
    by_cases hlt : i < L
    · obtain ⟨x, hx⟩ : ∃ x, l[i]? = some x := ⟨_, List.getElem?_eq_getElem (by have := HL.out; omega)⟩
      obtain ⟨y, hy⟩ : ∃ y, l[i - 1]? = some y := ⟨_, List.getElem?_eq_getElem (by have := HL.out; omega)⟩
      have hyx : y ≤ x := by
        have e1 := List.getElem?_eq_some_iff.1 hx
        have e2 := List.getElem?_eq_some_iff.1 hy
        obtain ⟨p1, rfl⟩ := e1
        obtain ⟨p2, rfl⟩ := e2
        exact List.pairwise_iff_getElem.1 HS.out (i - 1) i p2 p1 (by omega)
      have c1 : wr.cell? ⟨g, i, none⟩ = some (.int .u32 (x : Int)) := by rw [HWR.out]; exact HO.out.cell rfl i x hx
      have c2 : wr.cell? ⟨g, i - 1, none⟩ = some (.int .u32 (y : Int)) := by rw [HWR.out]; exact HO.out.cell rfl (i - 1) y hy
      have hle : ∀ W, Calls Try.prog 64 #[.int .u32 (x : Int), .int .u32 (y : Int)] W fun e w' => e = .returned (.bool false) ∧ w' = W := fun W => by
        have := less_calls x y W
        rwa [show decide ((x : Int) < (y : Int)) = false by rw [decide_eq_false_iff_not]; omega] at this
      have HLE := Lib.hid hle
      have i0 : (0 : Int) ≤ (i : Int) := by omega
      have i1 : (i : Int) < (L : Int) := by omega
      have i2 : (0 : Int) ≤ (i : Int) - 1 := by omega
      have i3 : (i : Int) - 1 < (L : Int) := by omega
      have i4 : ((i : Int) - 1).toNat = i - 1 := by omega
      have g1 : decide ((i : Int) > 0) = true := by rw [decide_eq_true_eq]; omega
      have i5 : (i : Int) ≤ 12 := by omega
      have HW1 : Hid (IntKind.i64.wrap ((i : Int) - 1) = (i : Int) - 1) := Lib.hid (by rw [IntKind.wrap_i64]; omega)
      clear hx hy hyx hle hlt
      go_wp2_with fail
      refine wp_loop_rounds 1 ?_
      rw [rounds_succ]
      go_wp2_with fail
      refine Thr.drawn [(0, false), (1, false), (2, false), (3, false), (4, false), (5, false), (6, false), (7, false), (8, false), (9, false), (10, false), (11, false), (12, false), (13, true), (14, false)] 15
        (fun w' => w'.cell? ⟨g, i, none⟩ = some (.int .u32 (x : Int)) ∧ w'.cell? ⟨g, i - 1, none⟩ = some (.int .u32 (y : Int))) (by kernel_rfl) (by kernel_rfl) (fun c a w d v h => by cases d <;> exact h) ⟨c1, c2⟩ ?_
      simp only [Thr.pick, Array.reduceGetElem?]
      iterate 2
        apply Thr.read rfl
        · intro w' hS
          go_simp
          try with_reducible rfl
        simp only [Act.put, List.setIfInBounds_toArray, List.set_cons_zero, List.set_cons_succ]
      refine Thr.read (v := .bool true) rfl ?_ ?_
      · intro w' hS
        go_simp
        try omega
      simp only [Act.put, List.setIfInBounds_toArray, List.set_cons_zero, List.set_cons_succ]
      apply Thr.read rfl
      · intro w' hS
        go_simp
        try with_reducible rfl
      simp only [Act.put, List.setIfInBounds_toArray, List.set_cons_zero, List.set_cons_succ]
      iterate 9
        apply Thr.readG (by rfl)
        · intro w' hS
          go_simp
          try rw [HW1.out]
          (repeat rw [if_pos (by omega)])
          try rw [i4]
          try with_reducible rfl
        simp only [Act.put, List.setIfInBounds_toArray, List.set_cons_zero, List.set_cons_succ]
      apply Thr.actG (by rfl)
      intro K hK
      go_simp
      refine (HLE.out _).mono ?_
      rintro e w4 ⟨rfl, hw4⟩
      subst hw4
      refine hK _ _ ⟨c1, c2⟩ ?_
      clear hK K
      try simp only [Act.put, List.setIfInBounds_toArray, List.set_cons_zero, List.set_cons_succ]
      apply Thr.read rfl
      · intro w' hS
        go_simp
        try with_reducible rfl
      simp only [Act.put, List.setIfInBounds_toArray, List.set_cons_zero, List.set_cons_succ]
      refine Thr.done ?_
      go_wp2_with fail
      rw [show (i : Int) + 1 = ((i + 1 : Nat) : Int) by omega]
      go_roundg (gk - 1)
      case measure => omega
      case rel => exact ⟨i + 1, q + 1, rfl, by omega, by omega, by omega, by rw [HWR.out]; rfl⟩
    · have qn : ¬ (i < L) := hlt
      go_wp2_with fail
      go_end0
      exact ⟨rfl, q, HWR.out⟩

theorem ins_none (a : Option Addr) (c : Nat) (w : World) : Calls Try.prog 58 #[.slice a 0 c, .int .i64 0, .int .i64 0] w fun e w' => e = .returned (.tuple #[]) ∧ w' = w := by
  go_enter Try.func58, Try.ntmps58
  go_wp2_with fail
  refine wp_loop_rounds 1 ?_
  rw [rounds_succ]
  go_wp2_with fail
  go_end0
  exact ⟨rfl, rfl⟩

set_option maxHeartbeats 4000000 in
set_option maxRecDepth 100000 in
theorem pdq_small {w : World} {v : Value} {n : Nat} (k : Int) (hn : n ≤ 12) (Q : World → Prop) (h : Calls Try.prog 58 #[v, .int .i64 0, .int .i64 (n : Int)] w fun e w' => e = .returned (.tuple #[]) ∧ Q w') :
    Calls Try.prog 47 #[v, .int .i64 0, .int .i64 (n : Int), .int .i64 k] w fun e w' => e = .returned (.tuple #[]) ∧ Q w' := by
  have HH := Lib.hid h
  have g1 : decide ((n : Int) ≤ 12) = true := by rw [decide_eq_true_eq]; omega
  have n0 : (0 : Int) ≤ (n : Int) := by omega
  clear h
  go_enter Try.func47, Try.ntmps47
  go_wp2_with fail
  refine wp_loop_rounds 1 ?_
  rw [rounds_succ]
  go_wp2_with fail
  refine HH.out.mono ?_
  rintro e w' ⟨rfl, hq⟩
  have HQ := Lib.hid hq
  clear hq
  go_wp2_with fail
  exact bodyPost_ret (v := .tuple #[]) (by simp [results, Try.results47, go_sem]) rfl ⟨rfl, HQ.out⟩

set_option maxHeartbeats 4000000 in
set_option maxRecDepth 100000 in
theorem sort_sorted {w : World} {v : Value} {l : List Nat} (h : OwnU w v l) (hs : l.Pairwise (· ≤ ·)) (hl : l.length ≤ 12) :
    Calls Try.prog 35 #[v] w fun e w' => e = .returned (.tuple #[]) ∧ ∃ q, w' = w.drewN q := by
  obtain ⟨a, c, rfl, hn, hc, hg⟩ := own_form h
  have hins : Calls Try.prog 58 #[.slice a l.length c, .int .i64 0, .int .i64 (l.length : Int)] w fun e w' => e = .returned (.tuple #[]) ∧ ∃ q, w' = w.drewN q := by
    by_cases h0 : l.length = 0
    · rw [h0]
      refine (ins_none a c w).mono ?_
      rintro e w' ⟨rfl, rfl⟩
      exact ⟨rfl, 0, rfl⟩
    · obtain ⟨g, rfl⟩ := hg.resolve_left h0
      exact ins_sorted h hs hl h0
  have hp := fun k => pdq_small k hl _ hins
  have hb := Try.bits_Len (l.length : Int) w (by omega) (by omega)
  obtain ⟨L, hL⟩ : ∃ L, L = l.length := ⟨_, rfl⟩
  rw [← hL] at hp hb hl ⊢
  have hcv : IntKind.u64.wrap (L : Int) = (L : Int) := by rw [IntKind.wrap_u64]; omega
  have HP := Lib.hid hp
  have HB := Lib.hid hb
  clear h hs hn hc hg hins hp hb hL hl
  go_enter Try.func35, Try.ntmps35
  go_wp2_with fail
  refine HB.out.mono ?_
  rintro e w' ⟨rfl, rfl⟩
  go_wp2_with fail
  refine (HP.out _).mono ?_
  rintro e w2 ⟨rfl, hq⟩
  have HQ := Lib.hid hq
  clear hq
  go_wp2_with fail
  go_end0
  exact ⟨rfl, HQ.out⟩
end Go.Proofs.Ytnokmbjgfglaoaa
