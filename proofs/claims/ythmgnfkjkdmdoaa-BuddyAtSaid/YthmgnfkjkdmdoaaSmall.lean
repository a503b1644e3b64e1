/- Contracts: New, Order, Fits, Failed, Taken. -/
import Derived.Test.YthmgnfkjkdmdoaaActs
import Derived.Test.YthmgnfkjkdmdoaaSli
set_option linter.unusedSimpArgs false
set_option linter.unusedVariables false
namespace Go.Proofs.Ythmgnfkjkdmdoaa
open Go Go.RowKit Bud

def nil_ : Value := .slice none 0 0
def base0 (n : Nat) : Array Value := #[.int .i64 (n : Int), nil_, nil_, nil_, nil_, nil_, nil_, nil_, nil_, nil_, nil_, nil_, nil_, nil_]
def one_ (fb : Nat) : Value := .slice (some ⟨fb, 0, none⟩) 1 1
def new_ (n fb : Nat) : Array Value := (base0 n).setIfInBounds (1 + n) (one_ fb)

theorem at_base0 (n i : Nat) (h1 : 1 ≤ i) (h2 : i < 14) : at_ (base0 n) i = nil_ := by
  have : i = 1 ∨ i = 2 ∨ i = 3 ∨ i = 4 ∨ i = 5 ∨ i = 6 ∨ i = 7 ∨ i = 8 ∨ i = 9 ∨ i = 10 ∨ i = 11 ∨ i = 12 ∨ i = 13 := by omega
  rcases this with rfl | rfl | rfl | rfl | rfl | rfl | rfl | rfl | rfl | rfl | rfl | rfl | rfl <;> rfl
theorem at_new (n fb i : Nat) (hn : n ≤ 10) (h1 : 1 ≤ i) (h2 : i < 14) : at_ (new_ n fb) i = if i = 1 + n then one_ fb else nil_ := by
  unfold new_
  by_cases h : i = 1 + n
  · rw [if_pos h, h, at_set_same _ _ _ (by simp [base0]; omega)]
  · rw [if_neg h, at_set_other _ _ _ _ (fun e => h e.symm), at_base0 n i h1 h2]

theorem fresh_yard {w : World} {n yb fb : Nat} (hn : n ≤ 10) (hy : w.heap[yb]? = some (.cells (new_ n fb) 62 (0, 0))) (hf : w.heap[fb]? = some (.cells #[.int .i64 0] 3 (0, 0))) (hne : yb ≠ fb) : YardAt w yb (new_ n fb) (newY n) := by
  refine ⟨hy, by simp [new_, base0], ?_, hn, fun o ho => ?_, ?_, ?_, fun i j k h1 h2 h3 h4 h5 h6 => ?_, fun i h1 h2 h3 => ?_⟩
  · unfold new_
    rw [Array.getElem?_setIfInBounds_ne (by omega)]
    rfl
  · rw [at_new n fb _ hn (by omega) (by omega)]
    unfold newY OwnN
    simp only
    by_cases h : o = n
    · rw [if_pos (by omega), if_pos h]
      exact Row.own_mk hf (Nat.zero_le _) (Nat.le_refl _) (by simp [maxLen]) (by simp) (by simp [nv])
    · rw [if_neg (by omega), if_neg h]
      exact ⟨rfl, .inl ⟨rfl, rfl⟩⟩
  · rw [at_new n fb _ hn (by omega) (by omega), if_neg (by omega)]
    exact ⟨rfl, .inl ⟨rfl, rfl⟩⟩
  · rw [at_new n fb _ hn (by omega) (by omega), if_neg (by omega)]
    exact ⟨rfl, .inl ⟨rfl, rfl⟩⟩
  · rw [at_new n fb _ hn h1 h2] at h5
    rw [at_new n fb _ hn h3 h4] at h6
    split at h5
    · split at h6
      · omega
      · simp [nil_, Value.ownBlock] at h6
    · simp [nil_, Value.ownBlock] at h5
  · rw [at_new n fb _ hn h1 h2] at h3
    split at h3
    · simp [one_, Value.ownBlock] at h3; omega
    · simp [nil_, Value.ownBlock] at h3

theorem new_foot {n yb fb k : Nat} (hn : n ≤ 10) (h : foot yb (new_ n fb) k) : k = yb ∨ k = fb := by
  rcases h with rfl | ⟨i, h1, h2, h3⟩
  · exact .inl rfl
  · rw [at_new n fb _ hn h1 h2] at h3
    split at h3
    · simp [one_, Value.ownBlock] at h3; exact .inr h3.symm
    · simp [nil_, Value.ownBlock] at h3

theorem new_bad (x : Int) (w : World) (hx : x < 0 ∨ 10 < x) : Calls Try.prog 17 #[.int .i64 x] w fun e w' => e = .returned (.tuple #[.pointer none, .int .i64 2]) ∧ w' = w := by
  by_cases h1 : x < 0
  · go_enter Try.func17, Try.ntmps17
    go_wp2_with fail
    go_ret2
    exact ⟨rfl, rfl⟩
  · have h2 : x > 10 := by omega
    have g1 : decide (x < 0) = false := by simpa using h1
    go_enter Try.func17, Try.ntmps17
    go_wp2_with fail
    go_ret2
    exact ⟨rfl, rfl⟩

set_option maxHeartbeats 4000000 in
set_option maxRecDepth 100000 in
theorem new_calls (n : Nat) (w : World) (hn : n ≤ 10) : Calls Try.prog 17 #[.int .i64 (n : Int)] w fun e w' => ∃ yb cs, e = .returned (.tuple #[.pointer (some ⟨yb, 0, none⟩), .int .i64 0]) ∧ YardAt w' yb cs (newY n) ∧ (∀ k, foot yb cs k → w.heap.size ≤ k) ∧ Below w.heap.size w w' := by
  have g1 : decide ((n : Int) < 0) = false := by rw [decide_eq_false_iff_not]; omega
  have g2 : decide ((n : Int) > 10) = false := by rw [decide_eq_false_iff_not]; omega
  have i0 : (0 : Int) ≤ (n : Int) := by omega
  have i1 : (n : Int) < 11 := by omega
  have key : ∀ W, W = (w.alloc (.cells (new_ n (w.heap.size + 1)) 62)).alloc (.cells #[.int .i64 0] 3) → ∃ yb cs, Ending.returned (.tuple #[.pointer (some ⟨w.heap.size, 0, none⟩), .int .i64 0]) = Ending.returned (.tuple #[.pointer (some ⟨yb, 0, none⟩), .int .i64 0]) ∧ YardAt W yb cs (newY n) ∧ (∀ k, foot yb cs k → w.heap.size ≤ k) ∧ Below w.heap.size w W := by
    rintro W rfl
    have hs1 : (w.alloc (.cells (new_ n (w.heap.size + 1)) 62)).heap.size = w.heap.size + 1 := by simp
    have hf := box_heap (w.alloc (.cells (new_ n (w.heap.size + 1)) 62)) #[.int .i64 0] 3
    rw [hs1] at hf
    refine ⟨w.heap.size, new_ n (w.heap.size + 1), rfl, fresh_yard hn ?_ hf (by omega), fun k hk => ?_, (below_alloc' w _).alloc (by simp) _⟩
    · rw [heap_alloc_old _ _ (by simp)]; exact box_heap _ _ _
    · rcases new_foot hn hk with rfl | rfl <;> omega
  have KEY := Lib.hid key
  clear key
  have hb2 : ((w.alloc (.cells (base0 n) 62)).alloc (.cells #[.int .i64 0] 3)).heap[w.heap.size]? = some (.cells (base0 n) 62 (0, 0)) := by rw [heap_alloc_old _ _ (by simp)]; exact box_heap _ _ _
  have hc : ((w.alloc (.cells (base0 n) 62)).alloc (.cells #[.int .i64 0] 3)).cell? ⟨w.heap.size, 1 + n, none⟩ = some nil_ := by
    unfold World.cell?
    rw [show ((w.alloc (.cells (base0 n) 62)).alloc (.cells #[.int .i64 0] 3)).heap[(⟨w.heap.size, 1 + n, none⟩ : Addr).block]? = some (.cells (base0 n) 62 (0, 0)) from hb2]
    have := at_base0 n (1 + n) (by omega) (by omega)
    have hlt : 1 + n < (base0 n).size := by simp [base0]; omega
    rw [at_, Array.getD_eq_getD_getElem?, Array.getElem?_eq_getElem hlt] at this
    simp only [Array.getElem?_eq_getElem hlt]
    simpa using this
  have hfz := two_frozen hb2 (1 + n)
  unfold base0 nil_ at hc hfz
  clear hb2
  go_enter Try.func17, Try.ntmps17
  go_wp2_with fail
  go_ret2
  exact KEY.out _ (by simp [new_, base0, one_, nil_])

theorem order_calls {w : World} {yb : Nat} {cs : Array Value} {y : Yd} (h : YardAt w yb cs y) : Calls Try.prog 19 #[.pointer (some ⟨yb, 0, none⟩)] w fun e w' => e = .returned (.int .i64 (y.n : Int)) ∧ w' = w := by
  have q0 : w.cell? ⟨yb, 0, none⟩ = some (.int .i64 (y.n : Int)) := h.order_cell
  go_enter Try.func19, Try.ntmps19
  go_wp2_with fail
  go_ret
  exact ⟨rfl, rfl⟩
theorem order_nil (w : World) : Calls Try.prog 19 #[.pointer none] w fun e w' => e = .returned (.int .i64 0) ∧ w' = w := by
  go_enter Try.func19, Try.ntmps19
  go_wp2_with fail
  go_ret
  exact ⟨rfl, rfl⟩

def fitsY (y : Yd) (x : Int) : Bool := decide (0 ≤ x) && decide (x ≤ (y.n : Int)) && (firstF y.n y.free x.toNat).isSome

set_option maxHeartbeats 4000000 in
set_option maxRecDepth 100000 in
theorem fits_calls {w : World} {yb : Nat} {cs : Array Value} {y : Yd} (h : YardAt w yb cs y) (x : Int) : Calls Try.prog 26 #[.pointer (some ⟨yb, 0, none⟩), .int .i64 x] w fun e w' => e = .returned (.bool (fitsY y x)) ∧ w' = w := by
  have hle := h.le
  have q0 : w.cell? ⟨yb, 0, none⟩ = some (.int .i64 (y.n : Int)) := h.order_cell
  by_cases h1 : x < 0
  · rw [show fitsY y x = false by unfold fitsY; rw [show decide (0 ≤ x) = false by rw [decide_eq_false_iff_not]; omega]; rfl]
    go_enter Try.func26, Try.ntmps26
    go_wp2_with fail
    go_ret
    exact ⟨rfl, rfl⟩
  · have g1 : decide (x < 0) = false := by simpa using h1
    by_cases h2 : x > (y.n : Int)
    · rw [show fitsY y x = false by unfold fitsY; rw [show decide (x ≤ (y.n : Int)) = false by rw [decide_eq_false_iff_not]; omega]; simp]
      go_enter Try.func26, Try.ntmps26
      go_wp2_with fail
      go_ret
      exact ⟨rfl, rfl⟩
    · have g2 : decide (x > (y.n : Int)) = false := by simpa using h2
      obtain ⟨k, rfl⟩ : ∃ k : Nat, x = (k : Int) := ⟨x.toNat, by omega⟩
      obtain ⟨R, hR⟩ : ∃ R, R = fitsY y (k : Int) := ⟨_, rfl⟩
      rw [← hR]
      have hR2 : R = (firstF y.n y.free k).isSome := by
        rw [hR]
        unfold fitsY
        rw [show decide (0 ≤ (k : Int)) = true by rw [decide_eq_true_eq]; omega, show decide ((k : Int) ≤ (y.n : Int)) = true by rw [decide_eq_true_eq]; omega]
        simp
      have HR := Lib.hid hR2
      clear hR hR2
      go_enter Try.func26, Try.ntmps26
      go_wp2_with fail
      go_loopg [5] (y.n + 1 - k) (fun g s5 wr => ∃ ok : Nat, s5 = .int .i64 (ok : Int) ∧ wr = w ∧ ok ≤ y.n + 1 ∧ firstF y.n y.free k = firstF y.n y.free ok ∧ y.n + 1 - ok ≤ g)
      case atStart => exact ⟨k, rfl, rfl, by omega, rfl, Nat.le_refl _⟩
      case round =>
        obtain ⟨ok, rfl, rfl, hok, hfo, hgk⟩ := hrel
        have HFO := Lib.hid hfo
        clear hfo
        by_cases hlt : ok ≤ y.n
        · have hlt' : (ok : Int) ≤ (y.n : Int) := by omega
          obtain ⟨a, c, hf, hn, hc, hg⟩ := own_form (h.free ok (by omega))
          have c2 : wr.cell? ⟨yb, 1 + ok, none⟩ = some (.slice a (y.free ok).length c) := by rw [← hf]; exact h.cell (1 + ok) (by omega)
          have i0 : (0 : Int) ≤ (ok : Int) := by omega
          have i1 : (ok : Int) < 11 := by omega
          clear hf
          obtain ⟨n, hl⟩ : ∃ n, n = (y.free ok).length := ⟨_, rfl⟩
          rw [← hl] at c2
          have HL := Lib.hid hl
          clear hl
          by_cases hn0 : n = 0
          · subst hn0
            go_wp2_with fail
            rw [show (ok : Int) + 1 = ((ok + 1 : Nat) : Int) by omega]
            go_roundg (gk - 1)
            case measure => omega
            case rel =>
              refine ⟨ok + 1, rfl, rfl, by omega, ?_, by omega⟩
              rw [HFO.out, firstF_miss hlt (HL.out.symm)]
          · have hpos : ((n : Int) > 0) := by omega
            have hans : R = true := by rw [HR.out, HFO.out, firstF_hit hlt (by rw [← HL.out]; exact hn0)]; rfl
            have HA := Lib.hid hans
            clear hans
            go_wp2_with fail
            go_ret
            rw [HA.out]
            exact ⟨rfl, rfl⟩
        · have hlt' : ¬ ((ok : Int) ≤ (y.n : Int)) := by omega
          have hans : R = false := by rw [HR.out, HFO.out, firstF_end hlt]; rfl
          have HA := Lib.hid hans
          clear hans
          go_wp2_with fail
          go_ret
          rw [HA.out]
          exact ⟨rfl, rfl⟩
theorem fits_nil (x : Int) (w : World) : Calls Try.prog 26 #[.pointer none, .int .i64 x] w fun e w' => e = .returned (.bool false) ∧ w' = w := by
  go_enter Try.func26, Try.ntmps26
  go_wp2_with fail
  go_ret
  exact ⟨rfl, rfl⟩

/-- A row of one's own in a block that is new. -/
theorem own_new {w : World} {base e size n : Nat} {v : Value} {xs : List Value} (h : w.ownsRow base e size v n xs) : w.ownsRow 0 e size v n xs ∧ ∀ k, v.ownBlock = some k → base ≤ k := by
  refine ⟨⟨h.1, ?_⟩, ?_⟩
  · rcases h.2 with h | ⟨g, cap, cur, h1, h2, h3⟩
    · exact .inl h
    · exact .inr ⟨g, cap, cur, h1, Nat.zero_le _, h3⟩
  · intro k hk
    rcases h.2 with ⟨rfl, _⟩ | ⟨g, cap, cur, rfl, h2, h3⟩
    · simp [Value.ownBlock] at hk
    · simp [Value.ownBlock] at hk; omega

theorem cloneN {w : World} {v : Value} {l : List Nat} (h : OwnN w v l) (hl : l.length ≤ 1073741824) :
    Calls Try.prog 37 #[v] w fun e w' => ∃ v', e = .returned v' ∧ OwnN w' v' l ∧ (∀ k, v'.ownBlock = some k → w.heap.size ≤ k) ∧ Below w.heap.size w w' := by
  rcases h.2 with ⟨rfl, hz⟩ | ⟨g, cap, cur, rfl, _, hg, hn, hc, hs, ht⟩
  · refine (Try.slices_Clone_nil 0 0 w).mono ?_
    rintro e w' ⟨rfl, rfl⟩
    exact ⟨_, rfl, h, fun k hk => by simp [Value.ownBlock] at hk, Below.refl _ _⟩
  · obtain ⟨i0, hi0, hz0, hz1, hz2⟩ := info_parts info3
    refine (Try.slices_Clone i0 (.int .i64 0) 1 8 hi0 hz0 hz1 hz2 rfl (by omega) Try.sizeOf3 g 0 l.length cap (nv l) w (by simp [length_nv]) (by simp [maxLen]; omega) (by omega) (fun j u hu => by rw [Nat.zero_add]; exact own_cells h j u hu) (one_nv l)).mono ?_
    rintro e w' ⟨v', rfl, h1, h2, h3⟩
    obtain ⟨h4, h5⟩ := own_new h1
    exact ⟨v', rfl, h4, h5, h3⟩
theorem cloneB {w : World} {v : Value} {l : List Blk} (h : OwnB w v l) (hl : l.length ≤ 1073741824) :
    Calls Try.prog 36 #[v] w fun e w' => ∃ v', e = .returned v' ∧ OwnB w' v' l ∧ (∀ k, v'.ownBlock = some k → w.heap.size ≤ k) ∧ Below w.heap.size w w' := by
  rcases h.2 with ⟨rfl, hz⟩ | ⟨g, cap, cur, rfl, _, hg, hn, hc, hs, ht⟩
  · refine (AnyE.slices_Clone_nil Try.laysSlE041_f36 0 0 w).mono ?_
    rintro e w' ⟨rfl, rfl⟩
    exact ⟨_, rfl, h, fun k hk => by simp [Value.ownBlock] at hk, Below.refl _ _⟩
  · obtain ⟨i0, hi0, hz0, hz1, hz2⟩ := info_parts info31
    refine (AnyE.slices_Clone Try.laysSlE041_f36 i0 (.agg #[.int .i64 0, .int .i64 0]) 2 16 hi0 hz0 hz1 hz2 rfl (by omega) Try.sizeOf31 g 0 l.length cap (bv l) w (by simp [length_bv]) (by simp [maxLen]; omega) (by omega) (fun j u hu => by rw [Nat.zero_add]; exact own_cells h j u hu) (one_bv l)).mono ?_
    rintro e w' ⟨v', rfl, h1, h2, h3⟩
    obtain ⟨h4, h5⟩ := own_new h1
    exact ⟨v', rfl, h4, h5, h3⟩

theorem failed_calls {w : World} {yb : Nat} {cs : Array Value} {y : Yd} (h : YardAt w yb cs y) (hl : y.failed.length ≤ 1073741824) :
    Calls Try.prog 10 #[.pointer (some ⟨yb, 0, none⟩)] w fun e w' => ∃ v', e = .returned v' ∧ OwnN w' v' y.failed ∧ (∀ k, v'.ownBlock = some k → w.heap.size ≤ k) ∧ Below w.heap.size w w' := by
  have c2 := h.cell 13 (by omega)
  have hcl := cloneN h.failed hl
  generalize at_ cs 13 = V at *
  go_enter Try.func10, Try.ntmps10
  go_wp2_with fail
  refine hcl.mono ?_
  rintro e w' ⟨v', rfl, h1, h2, h3⟩
  go_wp2_with fail
  go_ret
  exact ⟨_, rfl, h1, h2, h3⟩
theorem taken_calls {w : World} {yb : Nat} {cs : Array Value} {y : Yd} (h : YardAt w yb cs y) (hl : y.taken.length ≤ 1073741824) :
    Calls Try.prog 9 #[.pointer (some ⟨yb, 0, none⟩)] w fun e w' => ∃ v', e = .returned v' ∧ OwnB w' v' y.taken ∧ (∀ k, v'.ownBlock = some k → w.heap.size ≤ k) ∧ Below w.heap.size w w' := by
  have c2 := h.cell 12 (by omega)
  have hcl := cloneB h.taken hl
  generalize at_ cs 12 = V at *
  go_enter Try.func9, Try.ntmps9
  go_wp2_with fail
  refine hcl.mono ?_
  rintro e w' ⟨v', rfl, h1, h2, h3⟩
  go_wp2_with fail
  go_ret
  exact ⟨_, rfl, h1, h2, h3⟩
theorem failed_nil (w : World) : Calls Try.prog 10 #[.pointer none] w fun e w' => e = .returned (.slice none 0 0) ∧ w' = w := by
  go_enter Try.func10, Try.ntmps10
  go_wp2_with fail
  go_ret
  exact ⟨rfl, rfl⟩
theorem taken_nil (w : World) : Calls Try.prog 9 #[.pointer none] w fun e w' => e = .returned (.slice none 0 0) ∧ w' = w := by
  go_enter Try.func9, Try.ntmps9
  go_wp2_with fail
  go_ret
  exact ⟨rfl, rfl⟩
end Go.Proofs.Ythmgnfkjkdmdoaa
