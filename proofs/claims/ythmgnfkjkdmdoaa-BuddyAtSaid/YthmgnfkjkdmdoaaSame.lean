/- Contracts: Same, SameInts. -/
import Derived.Test.YthmgnfkjkdmdoaaSplit
import Derived.Test.YthmgnfkjkdmdoaaBsf
import Derived.Test.YthmgnfkjkdmdoaaThread
set_option linter.unusedSimpArgs false
set_option linter.unusedVariables false
namespace Go.Proofs.Ythmgnfkjkdmdoaa
open Go Go.RowKit Bud

theorem same_iff {α : Type} {l1 l2 : List α} (h : l1.length = l2.length) : l1 = l2 ↔ ∀ (j : Nat) (a b : α), l1[j]? = some a → l2[j]? = some b → a = b := by
  constructor
  · rintro rfl j a b ha hb
    rw [ha] at hb
    exact Option.some.inj hb
  · intro hh
    refine List.ext_getElem h fun i h1 h2 => hh i _ _ (List.getElem?_eq_getElem h1) (List.getElem?_eq_getElem h2)

set_option maxHeartbeats 4000000 in
set_option maxRecDepth 100000 in
theorem same_calls {w : World} {v1 v2 : Value} {l1 l2 : List Blk} (h1 : OwnB w v1 l1) (h2 : OwnB w v2 l2) (hl1 : l1.length ≤ 1073741824) (hl2 : l2.length ≤ 1073741824) :
    Calls Try.prog 14 #[v1, v2] w fun e w' => e = .returned (.bool (decide (l1 = l2))) ∧ ∃ q, w' = w.drewN q := by
  obtain ⟨a1, c1, rfl, hn1, hc1, hg1⟩ := own_form h1
  obtain ⟨a2, c2, rfl, hn2, hc2, hg2⟩ := own_form h2
  obtain ⟨R, hR⟩ : ∃ R, R = decide (l1 = l2) := ⟨_, rfl⟩
  rw [← hR]
  have HR := Lib.hid hR
  obtain ⟨n1, hN1⟩ : ∃ n, n = l1.length := ⟨_, rfl⟩
  obtain ⟨n2, hN2⟩ : ∃ n, n = l2.length := ⟨_, rfl⟩
  rw [← hN1] at h1 hn1 hg1 hl1 ⊢
  rw [← hN2] at h2 hn2 hg2 hl2 ⊢
  have HN1 := Lib.hid hN1
  have HN2 := Lib.hid hN2
  clear hR hN1 hN2
  by_cases hne : n1 = n2
  · subst hne
    go_enter Try.func14, Try.ntmps14
    go_wp2_with fail
    go_loopg [5] n1 (fun g s5 wr => ∃ k q : Nat, s5 = .int .i64 (k : Int) ∧ wr = w.drewN q ∧ k ≤ n1 ∧ n1 - k ≤ g ∧ ∀ (j : Nat) (a b : Blk), j < k → l1[j]? = some a → l2[j]? = some b → a = b)
    case atStart => exact ⟨0, 0, rfl, rfl, by omega, by omega, fun j a b hj => absurd hj (Nat.not_lt_zero _)⟩
    case round =>
      obtain ⟨k, q, rfl, hw, hk, hgk, hall⟩ := hrel
      have HALL := Lib.hid hall
      have HW := Lib.hid hw
      clear hall
      by_cases hlt : k < n1
      · have hlt' : (k : Int) < (n1 : Int) := by omega
        have i0 : (0 : Int) ≤ (k : Int) := by omega
        obtain ⟨g1, rfl⟩ := hg1.resolve_left (by omega)
        obtain ⟨g2, rfl⟩ := hg2.resolve_left (by omega)
        obtain ⟨⟨s1, o1⟩, hb1⟩ : ∃ b, l1[k]? = some b := ⟨_, List.getElem?_eq_getElem (by have := HN1.out; omega)⟩
        obtain ⟨⟨s2, o2⟩, hb2⟩ : ∃ b, l2[k]? = some b := ⟨_, List.getElem?_eq_getElem (by have := HN2.out; omega)⟩
        obtain ⟨e0, e1⟩ := h1.two HN1.out k _ hb1
        obtain ⟨e2, e3⟩ := h2.two HN2.out k _ hb2
        simp only at e0 e1 e2 e3
        have d0 : wr.cell? ⟨g1, k * 2, none⟩ = some (.int .i64 (s1 : Int)) := by rw [hw]; exact e0
        have d1 : wr.cell? ⟨g1, k * 2 + 1, none⟩ = some (.int .i64 (o1 : Int)) := by rw [hw]; exact e1
        have d2 : wr.cell? ⟨g2, k * 2, none⟩ = some (.int .i64 (s2 : Int)) := by rw [hw]; exact e2
        have d3 : wr.cell? ⟨g2, k * 2 + 1, none⟩ = some (.int .i64 (o2 : Int)) := by rw [hw]; exact e3
        have HB1 := Lib.hid hb1
        have HB2 := Lib.hid hb2
        clear hb1 hb2 e0 e1 e2 e3 hw
        by_cases hs : s1 = s2 ∧ o1 = o2
        · obtain ⟨rfl, rfl⟩ := hs
          have HS : Hid (∀ (j : Nat) (a b : Blk), j < k + 1 → l1[j]? = some a → l2[j]? = some b → a = b) := Lib.hid fun j a b hj ha hb => by
            rcases Nat.lt_or_ge j k with h | h
            · exact HALL.out j a b h ha hb
            · obtain rfl : j = k := by omega
              have e1 := HB1.out
              have e2 := HB2.out
              rw [ha] at e1
              rw [hb] at e2
              cases e1
              cases e2
              rfl
          go_wp2_with fail
          refine Thr.drawn [(0, false), (1, false), (2, false), (3, false), (4, false), (5, false), (6, false), (7, false), (8, false)] 9
            (fun w' => w'.cell? ⟨g1, k * 2, none⟩ = some (.int .i64 (s1 : Int)) ∧ w'.cell? ⟨g1, k * 2 + 1, none⟩ = some (.int .i64 (o1 : Int)) ∧ w'.cell? ⟨g2, k * 2, none⟩ = some (.int .i64 (s1 : Int)) ∧ w'.cell? ⟨g2, k * 2 + 1, none⟩ = some (.int .i64 (o1 : Int))) (by kernel_rfl) (by kernel_rfl) (fun c a w d v h => by cases d <;> exact h) ⟨d0, d1, d2, d3⟩ ?_
          simp only [Thr.pick, Array.reduceGetElem?]
          iterate 9
            apply Thr.read rfl
            · intro w' hS
              go_simp
              (repeat rw [if_pos (by omega)])
              try with_reducible rfl
            simp only [Act.put, List.setIfInBounds_toArray, List.set_cons_zero, List.set_cons_succ]
          refine Thr.done ?_
          go_wp2_with fail
          rw [show (k : Int) + 1 = ((k + 1 : Nat) : Int) by omega]
          go_roundg (gk - 1)
          case measure => omega
          case rel => exact ⟨k + 1, q + 1, rfl, by rw [HW.out]; rfl, by omega, by omega, HS.out⟩
        · have hans : R = false := by
            rw [HR.out, decide_eq_false_iff_not]
            intro e
            have e1 := HB1.out
            rw [e, HB2.out] at e1
            cases e1
            exact hs ⟨rfl, rfl⟩
          have HA := Lib.hid hans
          clear hans
          by_cases hss : (s1 : Int) = (s2 : Int)
          · obtain rfl : s1 = s2 := by omega
            have hoo : ¬ ((o1 : Int) = (o2 : Int)) := fun e => hs ⟨rfl, by omega⟩
            clear hs hss
            go_wp2_with fail
            refine Thr.drawn [(0, false), (1, false), (2, false), (3, false), (4, false), (5, false), (6, false), (7, false), (8, false)] 9
              (fun w' => w'.cell? ⟨g1, k * 2, none⟩ = some (.int .i64 (s1 : Int)) ∧ w'.cell? ⟨g1, k * 2 + 1, none⟩ = some (.int .i64 (o1 : Int)) ∧ w'.cell? ⟨g2, k * 2, none⟩ = some (.int .i64 (s1 : Int)) ∧ w'.cell? ⟨g2, k * 2 + 1, none⟩ = some (.int .i64 (o2 : Int))) (by kernel_rfl) (by kernel_rfl) (fun c a w d v h => by cases d <;> exact h) ⟨d0, d1, d2, d3⟩ ?_
            simp only [Thr.pick, Array.reduceGetElem?]
            iterate 9
              apply Thr.read rfl
              · intro w' hS
                go_simp
                (repeat rw [if_pos (by omega)])
                try with_reducible rfl
              simp only [Act.put, List.setIfInBounds_toArray, List.set_cons_zero, List.set_cons_succ]
            refine Thr.done ?_
            go_wp2_with fail
            go_ret
            rw [HA.out]
            exact ⟨rfl, q + 1, by rw [HW.out]; rfl⟩
          · clear hs
            go_wp2_with fail
            refine Thr.drawn [(0, false), (1, false), (2, false), (3, false), (4, false), (5, false), (6, false), (7, false), (8, false)] 9
              (fun w' => w'.cell? ⟨g1, k * 2, none⟩ = some (.int .i64 (s1 : Int)) ∧ w'.cell? ⟨g1, k * 2 + 1, none⟩ = some (.int .i64 (o1 : Int)) ∧ w'.cell? ⟨g2, k * 2, none⟩ = some (.int .i64 (s2 : Int)) ∧ w'.cell? ⟨g2, k * 2 + 1, none⟩ = some (.int .i64 (o2 : Int))) (by kernel_rfl) (by kernel_rfl) (fun c a w d v h => by cases d <;> exact h) ⟨d0, d1, d2, d3⟩ ?_
            simp only [Thr.pick, Array.reduceGetElem?]
            iterate 9
              apply Thr.read rfl
              · intro w' hS
                go_simp
                (repeat rw [if_pos (by omega)])
                try with_reducible rfl
              simp only [Act.put, List.setIfInBounds_toArray, List.set_cons_zero, List.set_cons_succ]
            refine Thr.done ?_
            go_wp2_with fail
            go_ret
            rw [HA.out]
            exact ⟨rfl, q + 1, by rw [HW.out]; rfl⟩
      · have hlt' : ¬ ((k : Int) < (n1 : Int)) := by omega
        have hans : R = true := by
          rw [HR.out, decide_eq_true_eq, same_iff (by rw [← HN1.out, ← HN2.out])]
          intro j a b ha hb
          exact HALL.out j a b (by have := (List.getElem?_eq_some_iff.1 ha).1; have := HN1.out; omega) ha hb
        have HA := Lib.hid hans
        clear hans hw
        go_wp2_with fail
        go_ret
        rw [HA.out]
        exact ⟨rfl, q, HW.out⟩
  · have hne' : ¬ ((n1 : Int) = (n2 : Int)) := by omega
    have hans : R = false := by
      rw [HR.out, decide_eq_false_iff_not]
      intro e
      exact hne (by rw [HN1.out, HN2.out, e])
    have HA := Lib.hid hans
    clear hans
    go_enter Try.func14, Try.ntmps14
    go_wp2_with fail
    go_ret
    rw [HA.out]
    exact ⟨rfl, 0, rfl⟩

set_option maxHeartbeats 4000000 in
set_option maxRecDepth 100000 in
theorem sameInts_calls {w : World} {v1 v2 : Value} {l1 l2 : List Nat} (h1 : OwnN w v1 l1) (h2 : OwnN w v2 l2) (hl1 : l1.length ≤ 1073741824) (hl2 : l2.length ≤ 1073741824) :
    Calls Try.prog 16 #[v1, v2] w fun e w' => e = .returned (.bool (decide (l1 = l2))) ∧ ∃ q, w' = w.drewN q := by
  obtain ⟨a1, c1, rfl, hn1, hc1, hg1⟩ := own_form h1
  obtain ⟨a2, c2, rfl, hn2, hc2, hg2⟩ := own_form h2
  obtain ⟨R, hR⟩ : ∃ R, R = decide (l1 = l2) := ⟨_, rfl⟩
  rw [← hR]
  have HR := Lib.hid hR
  obtain ⟨n1, hN1⟩ : ∃ n, n = l1.length := ⟨_, rfl⟩
  obtain ⟨n2, hN2⟩ : ∃ n, n = l2.length := ⟨_, rfl⟩
  rw [← hN1] at h1 hn1 hg1 hl1 ⊢
  rw [← hN2] at h2 hn2 hg2 hl2 ⊢
  have HN1 := Lib.hid hN1
  have HN2 := Lib.hid hN2
  clear hR hN1 hN2
  by_cases hne : n1 = n2
  · subst hne
    go_enter Try.func16, Try.ntmps16
    go_wp2_with fail
    go_loopg [5] n1 (fun g s5 wr => ∃ k q : Nat, s5 = .int .i64 (k : Int) ∧ wr = w.drewN q ∧ k ≤ n1 ∧ n1 - k ≤ g ∧ ∀ (j : Nat) (a b : Nat), j < k → l1[j]? = some a → l2[j]? = some b → a = b)
    case atStart => exact ⟨0, 0, rfl, rfl, by omega, by omega, fun j a b hj => absurd hj (Nat.not_lt_zero _)⟩
    case round =>
      obtain ⟨k, q, rfl, hw, hk, hgk, hall⟩ := hrel
      have HALL := Lib.hid hall
      have HW := Lib.hid hw
      clear hall
      by_cases hlt : k < n1
      · have hlt' : (k : Int) < (n1 : Int) := by omega
        have i0 : (0 : Int) ≤ (k : Int) := by omega
        obtain ⟨g1, rfl⟩ := hg1.resolve_left (by omega)
        obtain ⟨g2, rfl⟩ := hg2.resolve_left (by omega)
        obtain ⟨s1, hb1⟩ : ∃ b, l1[k]? = some b := ⟨_, List.getElem?_eq_getElem (by have := HN1.out; omega)⟩
        obtain ⟨s2, hb2⟩ : ∃ b, l2[k]? = some b := ⟨_, List.getElem?_eq_getElem (by have := HN2.out; omega)⟩
        have e0 : w.cell? ⟨g1, k, none⟩ = some (.int .i64 (s1 : Int)) := own_cells (n := n1) (by have := HN1.out; subst this; exact h1) k _ (by simp [nv, hb1])
        have e2 : w.cell? ⟨g2, k, none⟩ = some (.int .i64 (s2 : Int)) := own_cells (n := n1) (by have := HN2.out; subst this; exact h2) k _ (by simp [nv, hb2])
        have d0 : wr.cell? ⟨g1, k, none⟩ = some (.int .i64 (s1 : Int)) := by rw [hw]; exact e0
        have d2 : wr.cell? ⟨g2, k, none⟩ = some (.int .i64 (s2 : Int)) := by rw [hw]; exact e2
        have HB1 := Lib.hid hb1
        have HB2 := Lib.hid hb2
        clear hb1 hb2 e0 e2 hw
        by_cases hs : s1 = s2
        · obtain rfl := hs
          have HS : Hid (∀ (j : Nat) (a b : Nat), j < k + 1 → l1[j]? = some a → l2[j]? = some b → a = b) := Lib.hid fun j a b hj ha hb => by
            rcases Nat.lt_or_ge j k with h | h
            · exact HALL.out j a b h ha hb
            · obtain rfl : j = k := by omega
              have e1 := HB1.out
              have e2 := HB2.out
              rw [ha] at e1
              rw [hb] at e2
              cases e1
              cases e2
              rfl
          go_wp2_with fail
          refine Thr.drawn [(0, false), (1, false), (2, false), (3, false), (4, false), (5, false), (6, false), (7, false), (8, false)] 9
            (fun w' => w'.cell? ⟨g1, k, none⟩ = some (.int .i64 (s1 : Int)) ∧ w'.cell? ⟨g2, k, none⟩ = some (.int .i64 (s1 : Int))) (by kernel_rfl) (by kernel_rfl) (fun c a w d v h => by cases d <;> exact h) ⟨d0, d2⟩ ?_
          simp only [Thr.pick, Array.reduceGetElem?]
          iterate 9
            apply Thr.read rfl
            · intro w' hS
              go_simp
              (repeat rw [if_pos (by omega)])
              try with_reducible rfl
            simp only [Act.put, List.setIfInBounds_toArray, List.set_cons_zero, List.set_cons_succ]
          refine Thr.done ?_
          go_wp2_with fail
          rw [show (k : Int) + 1 = ((k + 1 : Nat) : Int) by omega]
          go_roundg (gk - 1)
          case measure => omega
          case rel => exact ⟨k + 1, q + 1, rfl, by rw [HW.out]; rfl, by omega, by omega, HS.out⟩
        · have hans : R = false := by
            rw [HR.out, decide_eq_false_iff_not]
            intro e
            have e1 := HB1.out
            rw [e, HB2.out] at e1
            cases e1
            exact hs rfl
          have HA := Lib.hid hans
          clear hans
          have hss : ¬ ((s1 : Int) = (s2 : Int)) := fun e => hs (by omega)
          clear hs
          go_wp2_with fail
          refine Thr.drawn [(0, false), (1, false), (2, false), (3, false), (4, false), (5, false), (6, false), (7, false), (8, false)] 9
            (fun w' => w'.cell? ⟨g1, k, none⟩ = some (.int .i64 (s1 : Int)) ∧ w'.cell? ⟨g2, k, none⟩ = some (.int .i64 (s2 : Int))) (by kernel_rfl) (by kernel_rfl) (fun c a w d v h => by cases d <;> exact h) ⟨d0, d2⟩ ?_
          simp only [Thr.pick, Array.reduceGetElem?]
          iterate 9
            apply Thr.read rfl
            · intro w' hS
              go_simp
              (repeat rw [if_pos (by omega)])
              try with_reducible rfl
            simp only [Act.put, List.setIfInBounds_toArray, List.set_cons_zero, List.set_cons_succ]
          refine Thr.done ?_
          go_wp2_with fail
          go_ret
          rw [HA.out]
          exact ⟨rfl, q + 1, by rw [HW.out]; rfl⟩
      · have hlt' : ¬ ((k : Int) < (n1 : Int)) := by omega
        have hans : R = true := by
          rw [HR.out, decide_eq_true_eq, same_iff (by rw [← HN1.out, ← HN2.out])]
          intro j a b ha hb
          exact HALL.out j a b (by have := (List.getElem?_eq_some_iff.1 ha).1; have := HN1.out; omega) ha hb
        have HA := Lib.hid hans
        clear hans hw
        go_wp2_with fail
        go_ret
        rw [HA.out]
        exact ⟨rfl, q, HW.out⟩
  · have hne' : ¬ ((n1 : Int) = (n2 : Int)) := by omega
    have hans : R = false := by
      rw [HR.out, decide_eq_false_iff_not]
      intro e
      exact hne (by rw [HN1.out, HN2.out, e])
    have HA := Lib.hid hans
    clear hans
    go_enter Try.func16, Try.ntmps16
    go_wp2_with fail
    go_ret
    rw [HA.out]
    exact ⟨rfl, 0, rfl⟩

end Go.Proofs.Ythmgnfkjkdmdoaa
