/- Contract: Same, over cells. -/
import Derived.Test.YtnokmbjgfglaoaaSmall
import Derived.Test.YtnokmbjgfglaoaaPGangPlaysx9
set_option linter.unusedSimpArgs false
set_option linter.unusedVariables false
namespace Go.Proofs.Ytnokmbjgfglaoaa
open Go Go.RowKit Go.Lib Go.Sort
attribute [local go_sem high] PGangPlays.eqA34 PGangPlays.eqA32

theorem Cel.eq_iff (x y : Cel) : x = y ↔ (x.id : Int) = (y.id : Int) ∧ (x.row : Int) = (y.row : Int) ∧ (x.s : Int) = (y.s : Int) ∧ (x.o : Int) = (y.o : Int) := by
  obtain ⟨a, b, c, d⟩ := x
  obtain ⟨a', b', c', d'⟩ := y
  simp only [Cel.mk.injEq]
  omega

set_option maxHeartbeats 4000000 in
set_option maxRecDepth 100000 in
theorem same_calls {w : World} {v1 v2 : Value} {l1 l2 : List Cel} (h1 : OwnC w v1 l1) (h2 : OwnC w v2 l2) (hl : l1.length ≤ 1000000) :
    Calls Try.prog 19 #[v1, v2] w fun e w' => e = .returned (.bool (decide (l1 = l2))) ∧ Below w.heap.size w w' := by
  obtain ⟨a, c, rfl, hn, hc, hg⟩ := own_form h1
  obtain ⟨a2, c2, rfl, hn2, hc2, hg2⟩ := own_form h2
  obtain ⟨L, hL⟩ : ∃ L, L = l1.length := ⟨_, rfl⟩
  obtain ⟨L2, hL2⟩ : ∃ L2, L2 = l2.length := ⟨_, rfl⟩
  by_cases hll : L = L2
  · have H1 := Lib.hid h1
    have H2 := Lib.hid h2
    have HL := Lib.hid (And.intro hL (And.intro hL2 hll))
    have HG := Lib.hid (And.intro hg hg2)
    rw [← hL] at hl
    rw [← hL, ← hL2, ← hll]
    clear h1 h2 hn hn2 hc hc2 hg hg2 hL hL2 hll
    go_enter Try.func19, Try.ntmps19
    go_wp2_with fail
    go_loopg [5] L (fun q s5 wr => ∃ i : Nat, s5 = .int .i64 (i : Int) ∧ i ≤ L ∧ L - i ≤ q ∧ l1.take i = l2.take i ∧ Below w.heap.size w wr)
    case atStart => exact ⟨0, rfl, by omega, by omega, rfl, Below.refl _ _⟩
    case round =>
      obtain ⟨i, rfl, hi, hq, ht, hw⟩ := hrel
      have HT := Lib.hid ht
      have HW := Lib.hid hw
      clear ht hw
      by_cases hlt : i < L
      · obtain ⟨g, rfl⟩ := HG.out.1.resolve_left (by have := HL.out; omega)
        obtain ⟨g2, rfl⟩ := HG.out.2.resolve_left (by have := HL.out; omega)
        obtain ⟨x, hx⟩ : ∃ x, l1[i]? = some x := ⟨_, List.getElem?_eq_getElem (by have := HL.out; omega)⟩
        obtain ⟨y, hy⟩ : ∃ y, l2[i]? = some y := ⟨_, List.getElem?_eq_getElem (by have := HL.out; omega)⟩
        obtain ⟨p0, p1, p2, p3⟩ := OwnC.four (own_below H1.out HW.out) (by have := HL.out; omega) i x hx
        obtain ⟨q0, q1, q2, q3⟩ := OwnC.four (own_below H2.out HW.out) (by have := HL.out; omega) i y hy
        have i0 : (0 : Int) ≤ (i : Int) := by omega
        have i1 : (i : Int) < (L : Int) := by omega
        have HXY := Lib.hid (And.intro hx hy)
        have HEQ := Lib.hid (Cel.eq_iff x y)
        clear hx hy
        by_cases hxy : x = y
        · have HE := Lib.hid hxy
          subst hxy
          go_wp2_with fail
          go_quiet (fail)
          go_wp2_with fail
          rw [show (i : Int) + 1 = ((i + 1 : Nat) : Int) by omega]
          go_roundg (gk - 1)
          case measure => omega
          case rel =>
            refine ⟨i + 1, rfl, by omega, by omega, ?_, HW.out.trans ((below_drewN' _ _).mono HW.out.size)⟩
            rw [List.take_add_one, List.take_add_one, HT.out, HXY.out.1, HXY.out.2]
        · have hne : l1 ≠ l2 := fun e => hxy (by have h1 := HXY.out.1; rw [e, HXY.out.2] at h1; exact (Option.some.inj h1).symm)
          have HE := Lib.hid hne
          rw [Cel.eq_iff] at hxy
          have hb : ∀ a b : Int, (a == b) = true ∨ (a == b) = false := fun a b => by cases (a == b) <;> simp
          cases e0 : ((x.id : Int) == (y.id : Int)) <;> cases e1 : ((x.row : Int) == (y.row : Int)) <;> cases e2 : ((x.s : Int) == (y.s : Int)) <;> cases e3 : ((x.o : Int) == (y.o : Int))
          all_goals
            first
              | (exfalso
                 exact hxy ⟨by simpa using e0, by simpa using e1, by simpa using e2, by simpa using e3⟩)
              | (clear hxy hne hb
                 go_wp2_with fail
                 go_quiet (fail)
                 go_wp2_with fail
                 go_ret
                 exact ⟨by rw [decide_eq_false HE.out]; rfl, HW.out.trans ((below_drewN' _ _).mono HW.out.size)⟩)
      · go_wp2_with fail
        go_ret
        have h := HT.out
        rw [List.take_of_length_le (by have := HL.out; omega), List.take_of_length_le (by have := HL.out; omega)] at h
        exact ⟨by rw [decide_eq_true h]; rfl, HW.out⟩
  · have hne : l1 ≠ l2 := fun e => hll (by rw [hL, hL2, e])
    have HE := Lib.hid hne
    have e1 : ((L : Int) == (L2 : Int)) = false := by rw [beq_eq_false_iff_ne]; omega
    rw [← hL, ← hL2]
    clear h1 h2 hn hn2 hc hc2 hg hg2 hL hL2 hne hll
    go_enter Try.func19, Try.ntmps19
    go_wp2_with fail
    go_ret
    exact ⟨by rw [decide_eq_false HE.out]; rfl, Below.refl _ _⟩
end Go.Proofs.Ytnokmbjgfglaoaa
