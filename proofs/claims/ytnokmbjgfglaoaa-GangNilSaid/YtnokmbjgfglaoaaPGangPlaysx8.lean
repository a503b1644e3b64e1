-- PRINTED BY print.sh 35421559b90ae4d0a3588c463048766b98c2df88dd9212a6774a882060cdf62d: not written by this session
import Derived.Test.YtnokmbjgfglaoaaPGangPlaysx0
import Derived.Test.YtnokmbjgfglaoaaPGangPlaysx1
namespace Go.Proofs.Ytnokmbjgfglaoaa.PGangPlays
open Go.RowKit Go.Proofs.YtnokmbjgfglaoaaW.PrintWords Go.Proofs.YtnokmbjgfglaoaaW.PrintLast Go.Proofs.YtnokmbjgfglaoaaW.PrintMore
attribute [local go_sem] max2_int min2_int max_two min_two max_three min_three max_four min_four   -- for this text's walks alone
set_option linter.unusedVariables false
set_option linter.unusedSimpArgs false

attribute [local go_sem high] eqA34
-- NOT PRINTED: function 66 (slices_partitionOrdered_uint32)

-- NOT PRINTED: function 47 (slices_pdqsortOrdered_uint32)

-- NOT PRINTED: function 35 (slices_Sort_uint32_uint32)

-- NOT PRINTED: function 12 (gang_Matrix_Runs)

-- NOT PRINTED: function 14 (gang_Matrix_Active)

-- NOT PRINTED: function 18 (gang_Matrix_Turn)

-- NOT PRINTED: function 37 (gang_Matrix_row)

-- NOT PRINTED: function 77 (api_Cell_77)

-- NOT PRINTED: function 86 (api_Cell_86)

-- NOT PRINTED: function 78 (api_Cell_78)

-- NOT PRINTED: function 79 (api_Cell_79)

-- NOT PRINTED: function 89 (api_Cell_89)

-- NOT PRINTED: function 88 (api_Cell_88)

-- NOT PRINTED: function 87 (api_Cell_87)

-- NOT PRINTED: function 80 (api_Cell_80)

-- NOT PRINTED: function 81 (api_Cell_81)

-- NOT PRINTED: function 82 (api_Cell_82)

-- NOT PRINTED: function 83 (api_Cell_83)

-- NOT PRINTED: function 84 (api_Cell_84)

-- NOT PRINTED: function 69 (api_Cell_69)

-- NOT PRINTED: function 49 (api_Cell_49)

-- NOT PRINTED: function 38 (gang_Matrix_sort)

-- NOT PRINTED: function 20 (gang_Matrix_Unify)

-- NOT PRINTED: function 53 (api_Cell_53)

-- NOT PRINTED: function 39 (gang_Matrix_at)

-- NOT PRINTED: function 21 (gang_Matrix_Place)

-- NOT PRINTED: function 40 (api_Cell_40)

-- NOT PRINTED: function 22 (gang_Matrix_Remove)

-- NOT PRINTED: function 23 (gang_New)

/-! ### gangerref08_SameJobs: function 29 -/
def gangerref08_SameJobs.l0 : Nat → List Int → List Int → Int → Option (Bool)
  | 0, _, _, _ => none
  | k + 1, x0, x1, x5 => if x5 < (x0.length : Int) then (if 0 ≤ x5 then (if x5 < (x1.length : Int) then (if (rd x0 x5) = (rd x1 x5) then (gangerref08_SameJobs.l0 k x0 x1 (wrap64 (x5 + 1))) else (some false)) else (none)) else (none)) else (some true)
def gangerref08_SameJobs.f (k : Nat) (l0 : List Int) (l1 : List Int) : Option (Bool) := if (l0.length : Int) = (l1.length : Int) then (gangerref08_SameJobs.l0 k l0 l1 0) else (some false)
theorem gangerref08_SameJobs.mono_l : ∀ k, (∀ y0 y1 y2, LeO (gangerref08_SameJobs.l0 k y0 y1 y2) (gangerref08_SameJobs.l0 (k + 1) y0 y1 y2))
  | 0 => fun _ _ _ r h => by simp [gangerref08_SameJobs.l0] at h
  | k + 1 => by
    have ih0 := gangerref08_SameJobs.mono_l k
    · intro y0 y1 y2
      unfold gangerref08_SameJobs.l0
      repeat' first
      | (with_reducible exact ih0 _ _ _)
      | (with_reducible exact LeO.refl _)
      | (with_reducible exact LeO.none _)
      | (with_reducible refine LeO.ite ?_ ?_)
      | (with_reducible refine LeO.bind ?_ (fun _ => ?_))
      | exact ih0 _ _ _
      | exact LeO.none _
      | refine LeO.ite ?_ ?_
      | refine LeO.bind ?_ (fun _ => ?_)
theorem gangerref08_SameJobs.mono : ∀ a0 a1 k, LeO (gangerref08_SameJobs.f k a0 a1) (gangerref08_SameJobs.f (k + 1) a0 a1) := by
  intro a0 a1 k
  have ih0 := gangerref08_SameJobs.mono_l k
  unfold gangerref08_SameJobs.f
  repeat' first
      | (with_reducible exact ih0 _ _ _)
      | (with_reducible exact LeO.refl _)
      | (with_reducible exact LeO.none _)
      | (with_reducible refine LeO.ite ?_ ?_)
      | (with_reducible refine LeO.bind ?_ (fun _ => ?_))
      | exact ih0 _ _ _
      | exact LeO.none _
      | refine LeO.ite ?_ ?_
      | refine LeO.bind ?_ (fun _ => ?_)
set_option maxHeartbeats 8000000 in
set_option maxRecDepth 100000 in
theorem gangerref08_SameJobs.calls (k : Nat) (A0 : Option Addr) (c0 : Nat) (l0 : List Int) (A1 : Option Addr) (c1 : Nat) (l1 : List Int) (r : Bool) (w : World) (hr0 : Kd.C (Kd.int .u32) w A0 l0.length l0) (hc0 : l0.length ≤ c0) (hr1 : Kd.C (Kd.int .u32) w A1 l1.length l1) (hc1 : l1.length ≤ c1) (h : gangerref08_SameJobs.f k l0 l1 = some r) :
    Calls Try.prog 29 #[.slice A0 l0.length c0, .slice A1 l1.length c1] w fun e w' => e = .returned (.bool r) ∧ Drawn0 w w' := by
  have HR0 := Aside0.mk hr0
  have HC0 := Aside0.mk hc0
  clear hr0 hc0
  have HR1 := Aside0.mk hr1
  have HC1 := Aside0.mk hc1
  clear hr1 hc1
  have H : (if (l0.length : Int) = (l1.length : Int) then (gangerref08_SameJobs.l0 k l0 l1 0) else (some false)) = some r := h
  clear h
  by_cases c3 : (l0.length : Int) = (l1.length : Int)
  · rw [if_pos c3] at H
    have c3b0 : ((l0.length : Int) == (l1.length : Int)) = true := beq_iff_eq.mpr c3
    have c3b1 : ((l0.length : Int) != (l1.length : Int)) = false := bne_eq_false_iff_eq.mpr c3
    have c3b2 : (l0.length == l1.length) = true := by first | simpa using c3 | (simp at c3 ⊢; omega)
    clear c3
    have H' := Aside0.mk H
    clear H
    go_enter Try.func29, Try.ntmps29
    go_wp2
    repeat (go_quiet (fail); try go_wp2)
    go_loopg [5] k (fun kq v5 w' => ∃ (x5_1 : Int), v5 = .int .i64 x5_1 ∧ Aside0 (gangerref08_SameJobs.l0 kq l0 l1 x5_1 = some r) ∧ Aside0 (kq ≤ k) ∧ Drawn0 w w')
    case atStart => exact ⟨(0), (by first | rfl | (simp; done) | (simp [*]; done)), H', ⟨Nat.le_refl _⟩, by repeat (first | exact Drawn0.refl _ | apply Drawn0.step)⟩
    case round =>
      clear H'
      try clear c1
      try clear c2
      try clear p2
      try clear c3
      try clear c3b0
      try clear c3b1
      try clear c3b2
      obtain ⟨x5_1, rfl, HA, HK1, ⟨m1, rfl⟩⟩ := hrel
      cases gk with
      | zero => exact absurd HA.out (by simp [gangerref08_SameJobs.l0])
      | succ k1 =>
        have H := HA.out
        clear HA
        simp only [gangerref08_SameJobs.l0] at H
        by_cases c4 : x5_1 < (l0.length : Int)
        · rw [if_pos c4] at H
          have c4b0 : decide (x5_1 < (l0.length : Int)) = true := decide_eq_true c4
          clear c4
          by_cases c5 : 0 ≤ x5_1
          · rw [if_pos c5] at H
            have c5b0 : decide (0 ≤ x5_1) = true := decide_eq_true c5
            clear c5
            by_cases c6 : x5_1 < (l1.length : Int)
            · rw [if_pos c6] at H
              have c6b0 : decide (x5_1 < (l1.length : Int)) = true := decide_eq_true c6
              clear c6
              by_cases c7 : (rd l0 x5_1) = (rd l1 x5_1)
              · rw [if_pos c7] at H
                have c7b0 : ((rd l0 x5_1) == (rd l1 x5_1)) = true := beq_iff_eq.mpr c7
                have c7b1 : ((rd l0 x5_1) != (rd l1 x5_1)) = false := bne_eq_false_iff_eq.mpr c7
                clear c7
                have H' := Aside0.mk H
                clear H
                have p222 : 0 ≤ (x5_1 : Int) := of_decide_eq_true (by first | (with_reducible assumption) | assumption)
                have q222 : x5_1 < (l0.length : Int) := of_decide_eq_true (by first | (with_reducible assumption) | assumption)
                obtain ⟨ad222, e222, hx222_0⟩ := Kd.at_int HR0.out x5_1 p222 q222
                cases e222
                replace p222 := eq_true p222
                replace q222 := eq_true q222
                have p223 : 0 ≤ (x5_1 : Int) := of_decide_eq_true (by first | (with_reducible assumption) | assumption)
                have q223 : x5_1 < (l1.length : Int) := of_decide_eq_true (by first | (with_reducible assumption) | assumption)
                obtain ⟨ad223, e223, hx223_0⟩ := Kd.at_int HR1.out x5_1 p223 q223
                cases e223
                replace p223 := eq_true p223
                replace q223 := eq_true q223
                go_wp2
                repeat (go_quiet (fail); try go_wp2)
                go_roundg k1
                case measure => have := HK1.out; omega
                case rel => exact ⟨(wrap64 (x5_1 + 1)), (by first | rfl | (simp; done) | (simp [*]; done)), H', ⟨by have := HK1.out; omega⟩, by repeat (first | exact Drawn0.refl _ | apply Drawn0.step)⟩
              · rw [if_neg c7] at H
                have c7b0 : ((rd l0 x5_1) == (rd l1 x5_1)) = false := beq_eq_false_iff_ne.mpr c7
                have c7b1 : ((rd l0 x5_1) != (rd l1 x5_1)) = true := bne_iff_ne.mpr c7
                obtain rfl := Option.some.inj H
                have p222 : 0 ≤ (x5_1 : Int) := of_decide_eq_true (by first | (with_reducible assumption) | assumption)
                have q222 : x5_1 < (l0.length : Int) := of_decide_eq_true (by first | (with_reducible assumption) | assumption)
                obtain ⟨ad222, e222, hx222_0⟩ := Kd.at_int HR0.out x5_1 p222 q222
                cases e222
                replace p222 := eq_true p222
                replace q222 := eq_true q222
                have p223 : 0 ≤ (x5_1 : Int) := of_decide_eq_true (by first | (with_reducible assumption) | assumption)
                have q223 : x5_1 < (l1.length : Int) := of_decide_eq_true (by first | (with_reducible assumption) | assumption)
                obtain ⟨ad223, e223, hx223_0⟩ := Kd.at_int HR1.out x5_1 p223 q223
                cases e223
                replace p223 := eq_true p223
                replace q223 := eq_true q223
                go_wp2
                repeat (go_quiet (fail); try go_wp2)
                go_ret
                exact ⟨by first | rfl | (simp; done) | (simp [*]; done), by repeat (first | exact Drawn0.refl _ | apply Drawn0.step)⟩
            · rw [if_neg c6] at H
              exact absurd H (by simp)
          · rw [if_neg c5] at H
            exact absurd H (by simp)
        · rw [if_neg c4] at H
          have c4b0 : decide (x5_1 < (l0.length : Int)) = false := decide_eq_false c4
          clear c4
          obtain rfl := Option.some.inj H
          go_wp2
          repeat (go_quiet (fail); try go_wp2)
          go_ret
          exact ⟨by first | rfl | (simp; done) | (simp [*]; done), by repeat (first | exact Drawn0.refl _ | apply Drawn0.step)⟩
  · rw [if_neg c3] at H
    have c3b0 : ((l0.length : Int) == (l1.length : Int)) = false := beq_eq_false_iff_ne.mpr c3
    have c3b1 : ((l0.length : Int) != (l1.length : Int)) = true := bne_iff_ne.mpr c3
    have c3b2 : (l0.length == l1.length) = false := by first | simpa using c3 | (simp at c3 ⊢; omega)
    obtain rfl := Option.some.inj H
    go_enter Try.func29, Try.ntmps29
    go_wp2
    repeat (go_quiet (fail); try go_wp2)
    go_ret
    exact ⟨by first | rfl | (simp; done) | (simp [*]; done), by repeat (first | exact Drawn0.refl _ | apply Drawn0.step)⟩

-- NOT PRINTED: function 16 (gangerlaw16_known)

/-! ### gangerref16_Same: function 19 -/
def gangerref16_Same.l0 : Nat → List (S34) → List (S34) → Int → Option (Bool)
  | 0, _, _, _ => none
  | k + 1, x0, x1, x5 => if x5 < (x0.length : Int) then (if 0 ≤ x5 then (if x5 < (x1.length : Int) then (if (!(((rd_T34 x0 x5).f0) == ((rd_T34 x1 x5).f0)) || (!(((rd_T34 x0 x5).f1) == ((rd_T34 x1 x5).f1)) || ((!(((rd_T34 x0 x5).f2.f0) == ((rd_T34 x1 x5).f2.f0)) || (!(((rd_T34 x0 x5).f2.f1) == ((rd_T34 x1 x5).f2.f1))))))) = true then (some false) else (gangerref16_Same.l0 k x0 x1 (wrap64 (x5 + 1)))) else (none)) else (none)) else (some true)
def gangerref16_Same.f (k : Nat) (l0 : List (S34)) (l1 : List (S34)) : Option (Bool) := if (l0.length : Int) = (l1.length : Int) then (gangerref16_Same.l0 k l0 l1 0) else (some false)
theorem gangerref16_Same.mono_l : ∀ k, (∀ y0 y1 y2, LeO (gangerref16_Same.l0 k y0 y1 y2) (gangerref16_Same.l0 (k + 1) y0 y1 y2))
  | 0 => fun _ _ _ r h => by simp [gangerref16_Same.l0] at h
  | k + 1 => by
    have ih0 := gangerref16_Same.mono_l k
    · intro y0 y1 y2
      unfold gangerref16_Same.l0
      repeat' first
      | (with_reducible exact ih0 _ _ _)
      | (with_reducible exact LeO.refl _)
      | (with_reducible exact LeO.none _)
      | (with_reducible refine LeO.ite ?_ ?_)
      | (with_reducible refine LeO.bind ?_ (fun _ => ?_))
      | exact ih0 _ _ _
      | exact LeO.none _
      | refine LeO.ite ?_ ?_
      | refine LeO.bind ?_ (fun _ => ?_)
theorem gangerref16_Same.mono : ∀ a0 a1 k, LeO (gangerref16_Same.f k a0 a1) (gangerref16_Same.f (k + 1) a0 a1) := by
  intro a0 a1 k
  have ih0 := gangerref16_Same.mono_l k
  unfold gangerref16_Same.f
  repeat' first
      | (with_reducible exact ih0 _ _ _)
      | (with_reducible exact LeO.refl _)
      | (with_reducible exact LeO.none _)
      | (with_reducible refine LeO.ite ?_ ?_)
      | (with_reducible refine LeO.bind ?_ (fun _ => ?_))
      | exact ih0 _ _ _
      | exact LeO.none _
      | refine LeO.ite ?_ ?_
      | refine LeO.bind ?_ (fun _ => ?_)
set_option maxHeartbeats 8000000 in
set_option maxRecDepth 100000 in
theorem gangerref16_Same.calls (k : Nat) (A0 : Option Addr) (c0 : Nat) (l0 : List (S34)) (A1 : Option Addr) (c1 : Nat) (l1 : List (S34)) (r : Bool) (w : World) (hr0 : Kd.C k34 w A0 l0.length l0) (hc0 : l0.length ≤ c0) (hr1 : Kd.C k34 w A1 l1.length l1) (hc1 : l1.length ≤ c1) (h : gangerref16_Same.f k l0 l1 = some r) :
    Calls Try.prog 19 #[.slice A0 l0.length c0, .slice A1 l1.length c1] w fun e w' => e = .returned (.bool r) ∧ Drawn0 w w' := by
  have hu34 := Try.underlying34
  have HR0 := Aside0.mk hr0
  have HC0 := Aside0.mk hc0
  clear hr0 hc0
  have HR1 := Aside0.mk hr1
  have HC1 := Aside0.mk hc1
  clear hr1 hc1
  have H : (if (l0.length : Int) = (l1.length : Int) then (gangerref16_Same.l0 k l0 l1 0) else (some false)) = some r := h
  clear h
  by_cases c3 : (l0.length : Int) = (l1.length : Int)
  · rw [if_pos c3] at H
    have c3b0 : ((l0.length : Int) == (l1.length : Int)) = true := beq_iff_eq.mpr c3
    have c3b1 : ((l0.length : Int) != (l1.length : Int)) = false := bne_eq_false_iff_eq.mpr c3
    have c3b2 : (l0.length == l1.length) = true := by first | simpa using c3 | (simp at c3 ⊢; omega)
    clear c3
    have H' := Aside0.mk H
    clear H
    go_enter Try.func19, Try.ntmps19
    go_wp2
    repeat (go_quiet (fail); try go_wp2)
    go_loopg [5] k (fun kq v5 w' => ∃ (x5_1 : Int), v5 = .int .i64 x5_1 ∧ Aside0 (gangerref16_Same.l0 kq l0 l1 x5_1 = some r) ∧ Aside0 (kq ≤ k) ∧ Drawn0 w w')
    case atStart => exact ⟨(0), (by first | rfl | (simp; done) | (simp [*]; done)), H', ⟨Nat.le_refl _⟩, by repeat (first | exact Drawn0.refl _ | apply Drawn0.step)⟩
    case round =>
      clear H'
      try clear c1
      try clear p2
      try clear c3
      try clear c3b0
      try clear c3b1
      try clear c3b2
      obtain ⟨x5_1, rfl, HA, HK1, ⟨m1, rfl⟩⟩ := hrel
      cases gk with
      | zero => exact absurd HA.out (by simp [gangerref16_Same.l0])
      | succ k1 =>
        have H := HA.out
        clear HA
        simp only [gangerref16_Same.l0] at H
        by_cases c4 : x5_1 < (l0.length : Int)
        · rw [if_pos c4] at H
          have c4b0 : decide (x5_1 < (l0.length : Int)) = true := decide_eq_true c4
          clear c4
          by_cases c5 : 0 ≤ x5_1
          · rw [if_pos c5] at H
            have c5b0 : decide (0 ≤ x5_1) = true := decide_eq_true c5
            clear c5
            by_cases c6 : x5_1 < (l1.length : Int)
            · rw [if_pos c6] at H
              have c6b0 : decide (x5_1 < (l1.length : Int)) = true := decide_eq_true c6
              clear c6
              by_cases c7 : (!(((rd_T34 l0 x5_1).f0) == ((rd_T34 l1 x5_1).f0)) || (!(((rd_T34 l0 x5_1).f1) == ((rd_T34 l1 x5_1).f1)) || ((!(((rd_T34 l0 x5_1).f2.f0) == ((rd_T34 l1 x5_1).f2.f0)) || (!(((rd_T34 l0 x5_1).f2.f1) == ((rd_T34 l1 x5_1).f2.f1))))))) = true
              · rw [if_pos c7] at H
                have c7b0 : (!(((rd_T34 l0 x5_1).f0) == ((rd_T34 l1 x5_1).f0)) || (!(((rd_T34 l0 x5_1).f1) == ((rd_T34 l1 x5_1).f1)) || ((!(((rd_T34 l0 x5_1).f2.f0) == ((rd_T34 l1 x5_1).f2.f0)) || (!(((rd_T34 l0 x5_1).f2.f1) == ((rd_T34 l1 x5_1).f2.f1))))))) = true := c7
                clear c7
                obtain rfl := Option.some.inj H
                have p224 : 0 ≤ (x5_1 : Int) := of_decide_eq_true (by first | (with_reducible assumption) | assumption)
                have q224 : x5_1 < (l0.length : Int) := of_decide_eq_true (by first | (with_reducible assumption) | assumption)
                obtain ⟨ad224, e224, hx224_0, hx224_1, hx224_2, hx224_3⟩ := at_T34 HR0.out x5_1 p224 q224
                cases e224
                replace p224 := eq_true p224
                replace q224 := eq_true q224
                have p225 : 0 ≤ (x5_1 : Int) := of_decide_eq_true (by first | (with_reducible assumption) | assumption)
                have q225 : x5_1 < (l1.length : Int) := of_decide_eq_true (by first | (with_reducible assumption) | assumption)
                obtain ⟨ad225, e225, hx225_0, hx225_1, hx225_2, hx225_3⟩ := at_T34 HR1.out x5_1 p225 q225
                cases e225
                replace p225 := eq_true p225
                replace q225 := eq_true q225
                go_wp2
                repeat (go_quiet (fail); try go_wp2)
                go_ret
                exact ⟨by first | rfl | (simp; done) | (simp [*]; done), by repeat (first | exact Drawn0.refl _ | apply Drawn0.step)⟩
              · rw [if_neg c7] at H
                have c7b0 : (!(((rd_T34 l0 x5_1).f0) == ((rd_T34 l1 x5_1).f0)) || (!(((rd_T34 l0 x5_1).f1) == ((rd_T34 l1 x5_1).f1)) || ((!(((rd_T34 l0 x5_1).f2.f0) == ((rd_T34 l1 x5_1).f2.f0)) || (!(((rd_T34 l0 x5_1).f2.f1) == ((rd_T34 l1 x5_1).f2.f1))))))) = false := by simpa using c7
                clear c7
                have H' := Aside0.mk H
                clear H
                have p224 : 0 ≤ (x5_1 : Int) := of_decide_eq_true (by first | (with_reducible assumption) | assumption)
                have q224 : x5_1 < (l0.length : Int) := of_decide_eq_true (by first | (with_reducible assumption) | assumption)
                obtain ⟨ad224, e224, hx224_0, hx224_1, hx224_2, hx224_3⟩ := at_T34 HR0.out x5_1 p224 q224
                cases e224
                replace p224 := eq_true p224
                replace q224 := eq_true q224
                have p225 : 0 ≤ (x5_1 : Int) := of_decide_eq_true (by first | (with_reducible assumption) | assumption)
                have q225 : x5_1 < (l1.length : Int) := of_decide_eq_true (by first | (with_reducible assumption) | assumption)
                obtain ⟨ad225, e225, hx225_0, hx225_1, hx225_2, hx225_3⟩ := at_T34 HR1.out x5_1 p225 q225
                cases e225
                replace p225 := eq_true p225
                replace q225 := eq_true q225
                go_wp2
                repeat (go_quiet (fail); try go_wp2)
                go_roundg k1
                case measure => have := HK1.out; omega
                case rel => exact ⟨(wrap64 (x5_1 + 1)), (by first | rfl | (simp; done) | (simp [*]; done)), H', ⟨by have := HK1.out; omega⟩, by repeat (first | exact Drawn0.refl _ | apply Drawn0.step)⟩
            · rw [if_neg c6] at H
              exact absurd H (by simp)
          · rw [if_neg c5] at H
            exact absurd H (by simp)
        · rw [if_neg c4] at H
          have c4b0 : decide (x5_1 < (l0.length : Int)) = false := decide_eq_false c4
          clear c4
          obtain rfl := Option.some.inj H
          go_wp2
          repeat (go_quiet (fail); try go_wp2)
          go_ret
          exact ⟨by first | rfl | (simp; done) | (simp [*]; done), by repeat (first | exact Drawn0.refl _ | apply Drawn0.step)⟩
  · rw [if_neg c3] at H
    have c3b0 : ((l0.length : Int) == (l1.length : Int)) = false := beq_eq_false_iff_ne.mpr c3
    have c3b1 : ((l0.length : Int) != (l1.length : Int)) = true := bne_iff_ne.mpr c3
    have c3b2 : (l0.length == l1.length) = false := by first | simpa using c3 | (simp at c3 ⊢; omega)
    obtain rfl := Option.some.inj H
    go_enter Try.func19, Try.ntmps19
    go_wp2
    repeat (go_quiet (fail); try go_wp2)
    go_ret
    exact ⟨by first | rfl | (simp; done) | (simp [*]; done), by repeat (first | exact Drawn0.refl _ | apply Drawn0.step)⟩

-- NOT PRINTED: function 24 (gangerref16_New)

/-! ### gangerref04_Size: function 36 -/
def gangerref04_Size.l0 : Nat → Int → Int → Int → Option (Int)
  | 0, _, _, _ => none
  | k + 1, x0, x3, x4 => if x4 < x0 then (gangerref04_Size.l0 k x0 (wrap64 (x3 * 2)) (wrap64 (x4 + 1))) else (some x3)
def gangerref04_Size.f (k : Nat) (a0 : Int) : Option (Int) := gangerref04_Size.l0 k a0 1 0
theorem gangerref04_Size.mono_l : ∀ k, (∀ y0 y1 y2, LeO (gangerref04_Size.l0 k y0 y1 y2) (gangerref04_Size.l0 (k + 1) y0 y1 y2))
  | 0 => fun _ _ _ r h => by simp [gangerref04_Size.l0] at h
  | k + 1 => by
    have ih0 := gangerref04_Size.mono_l k
    · intro y0 y1 y2
      unfold gangerref04_Size.l0
      repeat' first
      | (with_reducible exact ih0 _ _ _)
      | (with_reducible exact LeO.refl _)
      | (with_reducible exact LeO.none _)
      | (with_reducible refine LeO.ite ?_ ?_)
      | (with_reducible refine LeO.bind ?_ (fun _ => ?_))
      | exact ih0 _ _ _
      | exact LeO.none _
      | refine LeO.ite ?_ ?_
      | refine LeO.bind ?_ (fun _ => ?_)
theorem gangerref04_Size.mono : ∀ a0 k, LeO (gangerref04_Size.f k a0) (gangerref04_Size.f (k + 1) a0) := by
  intro a0 k
  have ih0 := gangerref04_Size.mono_l k
  unfold gangerref04_Size.f
  repeat' first
      | (with_reducible exact ih0 _ _ _)
      | (with_reducible exact LeO.refl _)
      | (with_reducible exact LeO.none _)
      | (with_reducible refine LeO.ite ?_ ?_)
      | (with_reducible refine LeO.bind ?_ (fun _ => ?_))
      | exact ih0 _ _ _
      | exact LeO.none _
      | refine LeO.ite ?_ ?_
      | refine LeO.bind ?_ (fun _ => ?_)
set_option maxHeartbeats 8000000 in
set_option maxRecDepth 100000 in
theorem gangerref04_Size.calls (k : Nat) (a0 : Int) (r : Int) (w : World) (h : gangerref04_Size.f k a0 = some r) :
    Calls Try.prog 36 #[.int .i64 a0] w fun e w' => e = .returned (.int .i64 r) ∧ Drawn0 w w' := by
  have H : (gangerref04_Size.l0 k a0 1 0) = some r := h
  clear h
  have H' := Aside0.mk H
  clear H
  go_enter Try.func36, Try.ntmps36
  go_wp2
  go_loopg [3, 4] k (fun kq v3 v4 w' => ∃ (x3_1 : Int) (x4_1 : Int), v3 = .int .i64 x3_1 ∧ v4 = .int .i64 x4_1 ∧ Aside0 (gangerref04_Size.l0 kq a0 x3_1 x4_1 = some r) ∧ Aside0 (kq ≤ k) ∧ Drawn0 w w')
  case atStart => exact ⟨(1), (0), (by first | rfl | (simp; done) | (simp [*]; done)), (by first | rfl | (simp; done) | (simp [*]; done)), H', ⟨Nat.le_refl _⟩, by repeat (first | exact Drawn0.refl _ | apply Drawn0.step)⟩
  case round =>
    clear H'
    obtain ⟨x3_1, x4_1, rfl, rfl, HA, HK1, ⟨m1, rfl⟩⟩ := hrel
    cases gk with
    | zero => exact absurd HA.out (by simp [gangerref04_Size.l0])
    | succ k1 =>
      have H := HA.out
      clear HA
      simp only [gangerref04_Size.l0] at H
      by_cases c2 : x4_1 < a0
      · rw [if_pos c2] at H
        have c2b0 : decide (x4_1 < a0) = true := decide_eq_true c2
        clear c2
        have H' := Aside0.mk H
        clear H
        go_wp2
        go_roundg k1
        case measure => have := HK1.out; omega
        case rel => exact ⟨(wrap64 (x3_1 * 2)), (wrap64 (x4_1 + 1)), (by first | rfl | (simp; done) | (simp [*]; done)), (by first | rfl | (simp; done) | (simp [*]; done)), H', ⟨by have := HK1.out; omega⟩, by repeat (first | exact Drawn0.refl _ | apply Drawn0.step)⟩
      · rw [if_neg c2] at H
        have c2b0 : decide (x4_1 < a0) = false := decide_eq_false c2
        clear c2
        obtain rfl := Option.some.inj H
        go_wp2
        go_ret
        exact ⟨by first | rfl | (simp; done) | (simp [*]; done), by repeat (first | exact Drawn0.refl _ | apply Drawn0.step)⟩

/-- A state of type 55 at block g of W; what its slices lead to came in by w0. -/
def IsS55 (w0 W : World) (g : Nat) (f0 : Int) (f1 : List (S34)) (f2 : Int) : Prop := ∃ A1 c1, W.heap[g]? = some (.cells #[.int .i64 f0, .slice A1 f1.length c1, .int .i64 f2] 55 (0, 0)) ∧ w0.heap.size ≤ g ∧ Kd.C k34 w0 A1 f1.length f1
theorem IsS55.grown {w0 W : World} {g : Nat} {f0 : Int} {f1 : List (S34)} {f2 : Int} {W1 : World} {row : Option Nat} (h : IsS55 w0 W g f0 f1 f2) (hw : W.grownBy W1 row) (hne : some g ≠ row) : IsS55 w0 W1 g f0 f1 f2 := by
  obtain ⟨A1, c1, hb, hg, hr1⟩ := h
  exact ⟨A1, c1, blk_grown hb hw hne, hg, hr1⟩
theorem IsS55.own_neN {w0 W : World} {g : Nat} {f0 : Int} {f1 : List (S34)} {f2 : Int} {α : Type} {d : Kd α} {e : Nat} {base : Nat} {ok : Nat → Prop} {v : Value} {xs : List α} (h : IsS55 w0 W g f0 f1 f2) (ho : Kd.N d e W base ok v xs) (ht : e ≠ 55) : some g ≠ v.ownBlock := by
  obtain ⟨A1, c1, hb, hg, hr1⟩ := h
  exact Kd.N_ne ho hb ht
theorem IsS55.fresh {w0 W : World} {g : Nat} {f0 : Int} {f1 : List (S34)} {f2 : Int} (h : IsS55 w0 W g f0 f1 f2) : ∀ k, W.heap.size ≤ k → k ≠ g := by
  obtain ⟨A1, c1, hb, hg, hr1⟩ := h
  exact Kd.freshB hb
theorem IsS55.kept {w0 W : World} {g : Nat} {f0 : Int} {f1 : List (S34)} {f2 : Int} {W1 : World} {S : Nat → Prop} (h : IsS55 w0 W g f0 f1 f2) (hk : Kept W W1 S) (hne : ¬ S g) : IsS55 w0 W1 g f0 f1 f2 := by
  obtain ⟨A1, c1, hb, hg, hr1⟩ := h
  exact ⟨A1, c1, blk_kept hb hk hne, hg, hr1⟩
theorem IsS55.below {w0 W : World} {g : Nat} {f0 : Int} {f1 : List (S34)} {f2 : Int} {W1 : World} (h : IsS55 w0 W g f0 f1 f2) (hw : Below W.heap.size W W1) : IsS55 w0 W1 g f0 f1 f2 := h.grown (grown_of_below hw none) (by simp)
theorem IsS55.alloc {w0 W : World} {g : Nat} {f0 : Int} {f1 : List (S34)} {f2 : Int} (h : IsS55 w0 W g f0 f1 f2) (o : Obj) : IsS55 w0 (W.alloc o) g f0 f1 f2 := h.below (below_alloc (Below.refl _ _) o)
theorem IsS55.drewN {w0 W : World} {g : Nat} {f0 : Int} {f1 : List (S34)} {f2 : Int} (h : IsS55 w0 W g f0 f1 f2) (m : Nat) : IsS55 w0 (W.drewN m) g f0 f1 f2 := h
theorem IsS55.drew {w0 W : World} {g : Nat} {f0 : Int} {f1 : List (S34)} {f2 : Int} (h : IsS55 w0 W g f0 f1 f2) : IsS55 w0 W.drew g f0 f1 f2 := h
theorem IsS55.at_ {w0 W : World} {g : Nat} {f0 : Int} {f1 : List (S34)} {f2 : Int} {w' : World} {m : Nat} (hq : W.drewN m = w') (h : IsS55 w0 W g f0 f1 f2) : IsS55 w0 w' g f0 f1 f2 := by subst hq; exact IsS55.drewN h m
theorem IsS55.apart {w0 W : World} {g : Nat} {f0 : Int} {f1 : List (S34)} {f2 : Int} {α : Type} {d : Kd α} {e : Nat} {base : Nat} {ok : Nat → Prop} {v : Value} {xs : List α} (h : IsS55 w0 W g f0 f1 f2) (ho : d.R e W base ok v xs) (ht : ∀ q, q ∈ e :: d.E → q ≠ 55) : d.R e W base (fun k => ok k ∧ k ≠ g) v xs := by
  obtain ⟨A1, c1, hb, hg, hr1⟩ := h
  exact Kd.R_types ho hb ht
theorem IsS55.own_ne {w0 W : World} {g : Nat} {f0 : Int} {f1 : List (S34)} {f2 : Int} {α : Type} {d : Kd α} {e : Nat} {base : Nat} {ok : Nat → Prop} {v : Value} {xs : List α} (h : IsS55 w0 W g f0 f1 f2) (ho : d.R e W base ok v xs) (ht : e ≠ 55) : some g ≠ v.ownBlock := by
  obtain ⟨A1, c1, hb, hg, hr1⟩ := h
  exact Kd.R_ne ho hb ht
theorem IsS55.apartQ {w0 W : World} {g : Nat} {f0 : Int} {f1 : List (S34)} {f2 : Int} {α : Type} {d : Kd α} {e : Nat} {base : Nat} {ok : Nat → Prop} {v : Value} {xs : List α} (h : IsS55 w0 W g f0 f1 f2) (ho : d.Q e W base ok v xs) (ht : ∀ q, q ∈ e :: d.E → q ≠ 55) : d.Q e W base (fun k => ok k ∧ k ≠ g) v xs := by
  obtain ⟨A1, c1, hb, hg, hr1⟩ := h
  exact Kd.Q_types ho hb ht
theorem IsS55.own_neQ {w0 W : World} {g : Nat} {f0 : Int} {f1 : List (S34)} {f2 : Int} {α : Type} {d : Kd α} {e : Nat} {base : Nat} {ok : Nat → Prop} {v : Value} {xs : List α} (h : IsS55 w0 W g f0 f1 f2) (ho : d.Q e W base ok v xs) (ht : e ≠ 55) : some g ≠ v.ownBlock := by
  obtain ⟨A1, c1, hb, hg, hr1⟩ := h
  exact Kd.Q_ne ho hb ht
theorem IsS55.apartS {w0 W : World} {g : Nat} {f0 : Int} {f1 : List (S34)} {f2 : Int} {α : Type} {d : Kd α} {e : Nat} {base : Nat} {ok : Nat → Prop} {v : Value} {xs : List α} (h : IsS55 w0 W g f0 f1 f2) (ho : d.S e W base ok v xs) (ht : ∀ q, q ∈ e :: d.E → q ≠ 55) : d.S e W base (fun k => ok k ∧ k ≠ g) v xs := by
  obtain ⟨A1, c1, hb, hg, hr1⟩ := h
  exact Kd.S_types ho hb ht
theorem IsS55.own_neS {w0 W : World} {g : Nat} {f0 : Int} {f1 : List (S34)} {f2 : Int} {α : Type} {d : Kd α} {e : Nat} {base : Nat} {ok : Nat → Prop} {v : Value} {xs : List α} (h : IsS55 w0 W g f0 f1 f2) (ho : d.S e W base ok v xs) (ht : e ≠ 55) : some g ≠ v.ownBlock := by
  obtain ⟨A1, c1, hb, hg, hr1⟩ := h
  exact Kd.S_ne ho hb ht
theorem IsS55.lt {w0 W : World} {g : Nat} {f0 : Int} {f1 : List (S34)} {f2 : Int} (h : IsS55 w0 W g f0 f1 f2) : g < W.heap.size := by
  obtain ⟨A1, c1, hb, hg, hr1⟩ := h
  exact blk_lt hb
theorem IsS55.ge {w0 W : World} {g : Nat} {f0 : Int} {f1 : List (S34)} {f2 : Int} (h : IsS55 w0 W g f0 f1 f2) : w0.heap.size ≤ g := by
  obtain ⟨A1, c1, hb, hg, hr1⟩ := h
  exact hg
theorem IsS55.ne_blk {w0 W : World} {g : Nat} {f0 : Int} {f1 : List (S34)} {f2 : Int} {a : Nat} {cs : Array Value} {t : TypeId} {fr : Nat × Nat} (h : IsS55 w0 W g f0 f1 f2) (hb2 : W.heap[a]? = some (.cells cs t fr)) (ht : t ≠ 55) : g ≠ a := by
  obtain ⟨A1, c1, hb, hg, hr1⟩ := h
  rintro rfl
  rw [hb] at hb2
  injection hb2 with hb2
  injection hb2 with _ ht2
  exact ht ht2.symm
theorem IsS55.far {w0 W : World} {g : Nat} {f0 : Int} {f1 : List (S34)} {f2 : Int} {p : Addr} (h : IsS55 w0 W g f0 f1 f2) (hne : g ≠ p.block) (u : Value) : IsS55 w0 (W.setCell p u) g f0 f1 f2 := by
  obtain ⟨A1, c1, hb, hg, hr1⟩ := h
  exact ⟨A1, c1, blk_far hb hne u, hg, hr1⟩
theorem cellS55_0 {W : World} {g : Nat} {A1 : Option Addr} {c1 : Nat} {f0 : Int} {f1 : List (S34)} {f2 : Int} (h : W.heap[g]? = some (.cells #[.int .i64 f0, .slice A1 f1.length c1, .int .i64 f2] 55 (0, 0))) : W.cell? ⟨g, 0, none⟩ = some (.int .i64 f0) := (blk_cell h 0).trans rfl
theorem IsS55.set_0 {w0 W : World} {g : Nat} {f0 : Int} {f1 : List (S34)} {f2 : Int} (h : IsS55 w0 W g f0 f1 f2) (x : Int) : IsS55 w0 (W.setCell ⟨g, 0, none⟩ (.int .i64 x)) g x f1 f2 := by
  obtain ⟨A1, c1, hb, hg, hr1⟩ := h
  exact ⟨A1, c1, by simpa using blk_set hb 0 (.int .i64 x), hg, hr1⟩
theorem cellS55_1 {W : World} {g : Nat} {A1 : Option Addr} {c1 : Nat} {f0 : Int} {f1 : List (S34)} {f2 : Int} (h : W.heap[g]? = some (.cells #[.int .i64 f0, .slice A1 f1.length c1, .int .i64 f2] 55 (0, 0))) : W.cell? ⟨g, 1, none⟩ = some (.slice A1 f1.length c1) := (blk_cell h 1).trans rfl
theorem cellS55_2 {W : World} {g : Nat} {A1 : Option Addr} {c1 : Nat} {f0 : Int} {f1 : List (S34)} {f2 : Int} (h : W.heap[g]? = some (.cells #[.int .i64 f0, .slice A1 f1.length c1, .int .i64 f2] 55 (0, 0))) : W.cell? ⟨g, 2, none⟩ = some (.int .i64 f2) := (blk_cell h 2).trans rfl
theorem IsS55.set_2 {w0 W : World} {g : Nat} {f0 : Int} {f1 : List (S34)} {f2 : Int} (h : IsS55 w0 W g f0 f1 f2) (x : Int) : IsS55 w0 (W.setCell ⟨g, 2, none⟩ (.int .i64 x)) g f0 f1 x := by
  obtain ⟨A1, c1, hb, hg, hr1⟩ := h
  exact ⟨A1, c1, by simpa using blk_set hb 2 (.int .i64 x), hg, hr1⟩
theorem IsS55.new (w0 W : World) (A1 : Option Addr) (c1 : Nat) (f0 : Int) (f1 : List (S34)) (f2 : Int) (hB : Below w0.heap.size w0 W) (hr1 : Kd.C k34 w0 A1 f1.length f1) : IsS55 w0 (W.alloc (.cells #[.int .i64 f0, .slice A1 f1.length c1, .int .i64 f2] 55)) W.heap.size f0 f1 f2 := ⟨A1, c1, by simpa using heap_alloc_new W _, hB.size, hr1⟩

/-! ### gangerref16_Matrix_find: function 55 -/
def gangerref16_Matrix_find.l0 : Nat → Int → Int → Int → List (S34) → Int → Option (Int × Int × Int)
  | 0, _, _, _, _, _ => none
  | k + 1, x1, x5, x1000, x1001, x1002 => if x5 < (x1001.length : Int) then (if 0 ≤ x5 then (if ((rd_T34 x1001 x5).f0) = x1 then (some (x5, x1000, x1002)) else (gangerref16_Matrix_find.l0 k x1 (wrap64 (x5 + 1)) x1000 x1001 x1002)) else (none)) else (some ((-1), x1000, x1002))
def gangerref16_Matrix_find.f (k : Nat) (s0_0 : Int) (s0_1 : List (S34)) (s0_2 : Int) (a1 : Int) : Option (Int × Int × Int) := gangerref16_Matrix_find.l0 k a1 0 s0_0 s0_1 s0_2
theorem gangerref16_Matrix_find.mono_l : ∀ k, (∀ y0 y1 y2 y3 y4, LeO (gangerref16_Matrix_find.l0 k y0 y1 y2 y3 y4) (gangerref16_Matrix_find.l0 (k + 1) y0 y1 y2 y3 y4))
  | 0 => fun _ _ _ _ _ r h => by simp [gangerref16_Matrix_find.l0] at h
  | k + 1 => by
    have ih0 := gangerref16_Matrix_find.mono_l k
    · intro y0 y1 y2 y3 y4
      unfold gangerref16_Matrix_find.l0
      repeat' first
      | (with_reducible exact ih0 _ _ _ _ _)
      | (with_reducible exact LeO.refl _)
      | (with_reducible exact LeO.none _)
      | (with_reducible refine LeO.ite ?_ ?_)
      | (with_reducible refine LeO.bind ?_ (fun _ => ?_))
      | exact ih0 _ _ _ _ _
      | exact LeO.none _
      | refine LeO.ite ?_ ?_
      | refine LeO.bind ?_ (fun _ => ?_)
theorem gangerref16_Matrix_find.mono : ∀ a0 a1 a2 a3 k, LeO (gangerref16_Matrix_find.f k a0 a1 a2 a3) (gangerref16_Matrix_find.f (k + 1) a0 a1 a2 a3) := by
  intro a0 a1 a2 a3 k
  have ih0 := gangerref16_Matrix_find.mono_l k
  unfold gangerref16_Matrix_find.f
  repeat' first
      | (with_reducible exact ih0 _ _ _ _ _)
      | (with_reducible exact LeO.refl _)
      | (with_reducible exact LeO.none _)
      | (with_reducible refine LeO.ite ?_ ?_)
      | (with_reducible refine LeO.bind ?_ (fun _ => ?_))
      | exact ih0 _ _ _ _ _
      | exact LeO.none _
      | refine LeO.ite ?_ ?_
      | refine LeO.bind ?_ (fun _ => ?_)
set_option maxHeartbeats 8000000 in
set_option maxRecDepth 100000 in
theorem gangerref16_Matrix_find.calls (k : Nat) (g : Nat) (s0_0 : Int) (s0_1 : List (S34)) (s0_2 : Int) (a1 : Int) (r1 : Int) (r2 : Int) (r3 : Int) (w0 w : World) (hI : IsS55 w0 w g s0_0 s0_1 s0_2) (hB : Below w0.heap.size w0 w) (h : gangerref16_Matrix_find.f k s0_0 s0_1 s0_2 a1 = some (r1, r2, r3)) :
    Calls Try.prog 55 #[.pointer (some ⟨g, 0, none⟩), .int .u32 a1] w fun e w' => e = .returned (.int .i64 r1) ∧ IsS55 w0 w' g r2 s0_1 r3 ∧ Below w0.heap.size w0 w' ∧ KeepBut w w' g none := by
  have HI0 := Aside0.mk hI
  have HK := Aside0.mk (KeepBut.refl w g none)
  have HL := Aside0.mk hB.size
  clear hI
  have HW0 := Aside0.mk hB.size
  have HB := Aside0.mk hB
  clear hB
  have H : (gangerref16_Matrix_find.l0 k a1 0 s0_0 s0_1 s0_2) = some (r1, r2, r3) := h
  clear h
  have H' := Aside0.mk H
  clear H
  go_enter Try.func55, Try.ntmps55
  go_wp2
  go_loopg [5] k (fun kq v5 w' => ∃ (x5_1 : Int), v5 = .int .i64 x5_1 ∧ Aside0 (gangerref16_Matrix_find.l0 kq a1 x5_1 s0_0 s0_1 s0_2 = some (r1, r2, r3)) ∧ Aside0 (kq ≤ k) ∧ Aside0 (IsS55 w0 w' g s0_0 s0_1 s0_2) ∧ Aside0 (KeepBut w w' g none) ∧ Aside0 (Below w0.heap.size w0 w'))
  case atStart => exact ⟨(0), (by first | rfl | (simp; done) | (simp [*]; done)), H', ⟨Nat.le_refl _⟩, ⟨by repeat (first | (with_reducible first | exact HI0.out | apply IsS55.alloc | apply IsS55.drewN | apply IsS55.drew | apply IsS55.set_0 | apply IsS55.set_2) | exact HI0.out)⟩, ⟨by repeat (first | (with_reducible first | exact HK.out | apply KeepBut.set_ | apply keep_drewN | apply keep_drew | apply keep_alloc) | exact HK.out)⟩, ⟨by repeat (first | (with_reducible first | exact HB.out | apply below_alloc | apply pw_below_drewN | apply below_drew1 | refine below_set ?_ (IsS55.ge HI0.out)) | exact HB.out)⟩⟩
  case round =>
    clear H'
    try clear p2
    obtain ⟨x5_1, rfl, HA, HK1, HI0, HK, HB⟩ := hrel
    cases gk with
    | zero => exact absurd HA.out (by simp [gangerref16_Matrix_find.l0])
    | succ k1 =>
      have H := HA.out
      clear HA
      simp only [gangerref16_Matrix_find.l0] at H
      by_cases c3 : x5_1 < (s0_1.length : Int)
      · rw [if_pos c3] at H
        have c3b0 : decide (x5_1 < (s0_1.length : Int)) = true := decide_eq_true c3
        clear c3
        by_cases c4 : 0 ≤ x5_1
        · rw [if_pos c4] at H
          have c4b0 : decide (0 ≤ x5_1) = true := decide_eq_true c4
          clear c4
          by_cases c5 : ((rd_T34 s0_1 x5_1).f0) = a1
          · rw [if_pos c5] at H
            have c5b0 : (((rd_T34 s0_1 x5_1).f0) == a1) = true := beq_iff_eq.mpr c5
            have c5b1 : (((rd_T34 s0_1 x5_1).f0) != a1) = false := bne_eq_false_iff_eq.mpr c5
            clear c5
            simp only [Option.some.injEq, Prod.mk.injEq] at H
            obtain ⟨rfl, rfl, rfl⟩ := H
            obtain ⟨ASz6_1, cSz6_1, HGz6, hgz6, HSz6_1⟩ := HI0.out
            have hcz6_0 := cellS55_0 HGz6
            have hcz6_1 := cellS55_1 HGz6
            have hcz6_2 := cellS55_2 HGz6
            have hfz6_0 := blk_frozen HGz6 0
            have hfz6_2 := blk_frozen HGz6 2
            clear HGz6 hgz6
            have p226 : 0 ≤ (x5_1 : Int) := of_decide_eq_true (by first | (with_reducible assumption) | assumption)
            have q226 : x5_1 < (s0_1.length : Int) := of_decide_eq_true (by first | (with_reducible assumption) | assumption)
            obtain ⟨ad226, e226, hx226_0, hx226_1, hx226_2, hx226_3⟩ := at_T34 HSz6_1 x5_1 p226 q226
            cases e226
            replace hx226_0 := pw_cell_below HB.out hx226_0
            replace hx226_1 := pw_cell_below HB.out hx226_1
            replace hx226_2 := pw_cell_below HB.out hx226_2
            replace hx226_3 := pw_cell_below HB.out hx226_3
            replace p226 := eq_true p226
            replace q226 := eq_true q226
            go_wp2
            go_ret
            exact ⟨by first | rfl | (simp [errW_none, errW_some] <;> rfl) | (simp [*, errW_none, errW_some] <;> rfl), by repeat (first | (with_reducible first | exact HI0.out | apply IsS55.alloc | apply IsS55.drewN | apply IsS55.drew | apply IsS55.set_0 | apply IsS55.set_2) | exact HI0.out), by repeat (first | (with_reducible first | exact HB.out | apply below_alloc | apply pw_below_drewN | apply below_drew1 | refine below_set ?_ (IsS55.ge HI0.out)) | exact HB.out), by repeat (first | (with_reducible first | exact HK.out | apply KeepBut.set_ | apply keep_drewN | apply keep_drew | apply keep_alloc) | exact HK.out)⟩
          · rw [if_neg c5] at H
            have c5b0 : (((rd_T34 s0_1 x5_1).f0) == a1) = false := beq_eq_false_iff_ne.mpr c5
            have c5b1 : (((rd_T34 s0_1 x5_1).f0) != a1) = true := bne_iff_ne.mpr c5
            have H' := Aside0.mk H
            clear H
            obtain ⟨ASz7_1, cSz7_1, HGz7, hgz7, HSz7_1⟩ := HI0.out
            have hcz7_0 := cellS55_0 HGz7
            have hcz7_1 := cellS55_1 HGz7
            have hcz7_2 := cellS55_2 HGz7
            have hfz7_0 := blk_frozen HGz7 0
            have hfz7_2 := blk_frozen HGz7 2
            clear HGz7 hgz7
            have p226 : 0 ≤ (x5_1 : Int) := of_decide_eq_true (by first | (with_reducible assumption) | assumption)
            have q226 : x5_1 < (s0_1.length : Int) := of_decide_eq_true (by first | (with_reducible assumption) | assumption)
            obtain ⟨ad226, e226, hx226_0, hx226_1, hx226_2, hx226_3⟩ := at_T34 HSz7_1 x5_1 p226 q226
            cases e226
            replace hx226_0 := pw_cell_below HB.out hx226_0
            replace hx226_1 := pw_cell_below HB.out hx226_1
            replace hx226_2 := pw_cell_below HB.out hx226_2
            replace hx226_3 := pw_cell_below HB.out hx226_3
            replace p226 := eq_true p226
            replace q226 := eq_true q226
            go_wp2
            go_roundg k1
            case measure => have := HK1.out; omega
            case rel => exact ⟨(wrap64 (x5_1 + 1)), (by first | rfl | (simp; done) | (simp [*]; done)), H', ⟨by have := HK1.out; omega⟩, ⟨by repeat (first | (with_reducible first | exact HI0.out | apply IsS55.alloc | apply IsS55.drewN | apply IsS55.drew | apply IsS55.set_0 | apply IsS55.set_2) | exact HI0.out)⟩, ⟨by repeat (first | (with_reducible first | exact HK.out | apply KeepBut.set_ | apply keep_drewN | apply keep_drew | apply keep_alloc) | exact HK.out)⟩, ⟨by repeat (first | (with_reducible first | exact HB.out | apply below_alloc | apply pw_below_drewN | apply below_drew1 | refine below_set ?_ (IsS55.ge HI0.out)) | exact HB.out)⟩⟩
        · rw [if_neg c4] at H
          exact absurd H (by simp)
      · rw [if_neg c3] at H
        have c3b0 : decide (x5_1 < (s0_1.length : Int)) = false := decide_eq_false c3
        clear c3
        simp only [Option.some.injEq, Prod.mk.injEq] at H
        obtain ⟨rfl, rfl, rfl⟩ := H
        obtain ⟨ASz8_1, cSz8_1, HGz8, hgz8, HSz8_1⟩ := HI0.out
        have hcz8_0 := cellS55_0 HGz8
        have hcz8_1 := cellS55_1 HGz8
        have hcz8_2 := cellS55_2 HGz8
        have hfz8_0 := blk_frozen HGz8 0
        have hfz8_2 := blk_frozen HGz8 2
        clear HGz8 hgz8
        go_wp2
        go_ret
        exact ⟨by first | rfl | (simp [errW_none, errW_some] <;> rfl) | (simp [*, errW_none, errW_some] <;> rfl), by repeat (first | (with_reducible first | exact HI0.out | apply IsS55.alloc | apply IsS55.drewN | apply IsS55.drew | apply IsS55.set_0 | apply IsS55.set_2) | exact HI0.out), by repeat (first | (with_reducible first | exact HB.out | apply below_alloc | apply pw_below_drewN | apply below_drew1 | refine below_set ?_ (IsS55.ge HI0.out)) | exact HB.out), by repeat (first | (with_reducible first | exact HK.out | apply KeepBut.set_ | apply keep_drewN | apply keep_drew | apply keep_alloc) | exact HK.out)⟩

end Go.Proofs.Ytnokmbjgfglaoaa.PGangPlays
