/- Contracts of the reference's small functions: Size, Same, SameJobs. -/
import Derived.Test.YtnokmbjgfglaoaaGood
set_option linter.unusedSimpArgs false
set_option linter.unusedVariables false
namespace Go.Proofs.Ytnokmbjgfglaoaa
open Go Go.RowKit Go.Lib Go.Sort

set_option maxHeartbeats 4000000 in
set_option maxRecDepth 100000 in
theorem size_calls (o : Nat) (ho : o ≤ 10) (w : World) : Calls Try.prog 36 #[.int .i64 (o : Int)] w fun e w' => e = .returned (.int .i64 ((2 ^ o : Nat) : Int)) ∧ w' = w := by
  obtain ⟨F, hF⟩ : ∃ F, F = 2 ^ o := ⟨_, rfl⟩
  rw [← hF]
  have HF := Lib.hid hF
  clear hF
  go_enter Try.func36, Try.ntmps36
  go_wp2_with fail
  go_loopg [3, 4] o (fun q s3 s4 wr => ∃ i P : Nat, s4 = .int .i64 (i : Int) ∧ s3 = .int .i64 (P : Int) ∧ P = 2 ^ i ∧ i ≤ o ∧ o - i ≤ q ∧ wr = w)
  case atStart => exact ⟨0, 1, rfl, rfl, rfl, by omega, by omega, rfl⟩
  case round =>
    obtain ⟨i, P, rfl, rfl, hP, hi, hg, hw⟩ := hrel
    have hb : P ≤ 1024 := by
      rw [hP]
      exact Nat.le_trans (Nat.pow_le_pow_right (by omega) (show i ≤ 10 by omega)) (by decide)
    have HP := Lib.hid hP
    have HW := Lib.hid hw
    clear hP hw
    by_cases hlt : i < o
    · go_wp2_with fail
      rw [show (i : Int) + 1 = ((i + 1 : Nat) : Int) by omega, show (P : Int) * 2 = ((P * 2 : Nat) : Int) by omega]
      go_roundg (gk - 1)
      case measure => omega
      case rel => exact ⟨i + 1, P * 2, rfl, rfl, by rw [HP.out, Nat.pow_succ], by omega, by omega, HW.out⟩
    · have e : i = o := by omega
      subst e
      go_wp2_with fail
      go_ret
      exact ⟨by rw [HF.out, ← HP.out]; rfl, HW.out⟩

set_option maxHeartbeats 4000000 in
set_option maxRecDepth 100000 in
theorem samejobs_calls {w : World} {v1 v2 : Value} {l1 l2 : List Nat} (h1 : OwnU w v1 l1) (h2 : OwnU w v2 l2) (hl : l1.length ≤ 1000000) (hl2 : l2.length ≤ 1000000) :
    Calls Try.prog 29 #[v1, v2] w fun e w' => e = .returned (.bool (decide (l1 = l2))) ∧ Below w.heap.size w w' := by
  obtain ⟨a, c, rfl, hn, hc, hg⟩ := own_form h1
  obtain ⟨a2, c2, rfl, hn2, hc2, hg2⟩ := own_form h2
  obtain ⟨L, hL⟩ : ∃ L, L = l1.length := ⟨_, rfl⟩
  obtain ⟨L2, hL2⟩ : ∃ L2, L2 = l2.length := ⟨_, rfl⟩
  by_cases hll : L = L2
  · have H1 := Lib.hid h1
    have H2 := Lib.hid h2
    have HL := Lib.hid (And.intro hL hL2)
    have HG := Lib.hid (And.intro hg hg2)
    rw [← hL] at hl
    rw [← hL, ← hL2, ← hll]
    clear h1 h2 hn hn2 hc hc2 hg hg2 hL hL2
    go_enter Try.func29, Try.ntmps29
    go_wp2_with fail
    go_loopg [5] L (fun q s5 wr => ∃ i : Nat, s5 = .int .i64 (i : Int) ∧ i ≤ L ∧ L - i ≤ q ∧ l1.take i = l2.take i ∧ Below w.heap.size w wr)
    case atStart => exact ⟨0, rfl, by omega, by omega, rfl, Below.refl _ _⟩
    case round =>
      obtain ⟨i, rfl, hi, hq, ht, hw⟩ := hrel
      have HT := Lib.hid ht
      have HW := Lib.hid hw
      clear ht hw
      by_cases hlt : i < L
      · obtain ⟨g, rfl⟩ := HG.out.1.resolve_left (by have := HL.out; omega)
        obtain ⟨g2, rfl⟩ := HG.out.2.resolve_left (by have := HL.out; omega)
        obtain ⟨x, hx⟩ : ∃ x, l1[i]? = some x := ⟨_, List.getElem?_eq_getElem (by have := HL.out; omega)⟩
        obtain ⟨y, hy⟩ : ∃ y, l2[i]? = some y := ⟨_, List.getElem?_eq_getElem (by have := HL.out; omega)⟩
        have q1 : wr.cell? ⟨g, i, none⟩ = some (.int .u32 (x : Int)) := OwnU.cell (own_below H1.out HW.out) (by have := HL.out; omega) i x hx
        have q2 : wr.cell? ⟨g2, i, none⟩ = some (.int .u32 (y : Int)) := OwnU.cell (own_below H2.out HW.out) (by have := HL.out; omega) i y hy
        have i0 : (0 : Int) ≤ (i : Int) := by omega
        have i1 : (i : Int) < (L : Int) := by omega
        have HXY := Lib.hid (And.intro hx hy)
        clear hx hy
        by_cases hxy : x = y
        · have e1 : ((x : Int) == (y : Int)) = true := by rw [beq_iff_eq]; omega
          have HE := Lib.hid hxy
          clear hxy
          go_wp2_with fail
          go_quiet (fail)
          go_wp2_with fail
          rw [show (i : Int) + 1 = ((i + 1 : Nat) : Int) by omega]
          go_roundg (gk - 1)
          case measure => omega
          case rel =>
            refine ⟨i + 1, rfl, by omega, by omega, ?_, HW.out.trans ((below_drewN' _ _).mono HW.out.size)⟩
            rw [List.take_add_one, List.take_add_one, HT.out, HXY.out.1, HXY.out.2, HE.out]
        · have e1 : ((x : Int) == (y : Int)) = false := by rw [beq_eq_false_iff_ne]; omega
          have hne : l1 ≠ l2 := fun e => hxy (by have h1 := HXY.out.1; rw [e, HXY.out.2] at h1; exact (Option.some.inj h1).symm)
          have HE := Lib.hid hne
          clear hxy hne
          go_wp2_with fail
          go_quiet (fail)
          go_wp2_with fail
          go_ret
          exact ⟨by rw [decide_eq_false HE.out]; rfl, HW.out.trans ((below_drewN' _ _).mono HW.out.size)⟩
      · go_wp2_with fail
        go_ret
        have h := HT.out
        rw [List.take_of_length_le (by have := HL.out; omega), List.take_of_length_le (by have := HL.out; omega)] at h
        exact ⟨by rw [decide_eq_true h]; rfl, HW.out⟩
  · have hne : l1 ≠ l2 := fun e => hll (by rw [hL, hL2, e])
    have HE := Lib.hid hne
    have e1 : ((L : Int) == (L2 : Int)) = false := by rw [beq_eq_false_iff_ne]; omega
    rw [← hL, ← hL2]
    clear h1 h2 hn hn2 hc hc2 hg hg2 hL hL2 hne hll
    go_enter Try.func29, Try.ntmps29
    go_wp2_with fail
    go_ret
    exact ⟨by rw [decide_eq_false HE.out]; rfl, Below.refl _ _⟩
end Go.Proofs.Ytnokmbjgfglaoaa
