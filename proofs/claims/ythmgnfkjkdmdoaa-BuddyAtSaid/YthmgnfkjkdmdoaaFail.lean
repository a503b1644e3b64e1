/- Contracts: Fail, Heal. -/
import Derived.Test.YthmgnfkjkdmdoaaHeld
import Derived.Test.YthmgnfkjkdmdoaaTakeAt
set_option linter.unusedSimpArgs false
set_option linter.unusedVariables false
namespace Go.Proofs.Ythmgnfkjkdmdoaa
open Go Go.RowKit Bud

def failR (y : Yd) (k : Nat) : Option (Nat × Nat) → Yd × Int
  | none => ({ y with failed := insK id k y.failed }, 0)
  | some (t, q) => ({ y with free := splitF y.free t q k 0, failed := insK id k y.failed }, 0)
/-- What Fail makes of a yard, and answers, for a worker that is. -/
def failY (y : Yd) (k : Nat) : Yd × Int :=
  if k ∈ y.failed then (y, 30) else failR y k (aroundF y.n y.free k 0)

theorem fail_good {y : Yd} (g : Good y) (k : Nat) (hk : k < 2 ^ y.n) : Good (failY y k).1 := by
  unfold failY
  split
  · exact g
  · rename_i hm
    cases hr : aroundF y.n y.free k 0 with
    | none =>
      refine g.failOut (fun ho => ?_) hm hk
      refine around_not g.canon (Nat.zero_le _) hr fun w hw => ?_
      simp only [Nat.pow_zero, Nat.div_one] at hw
      rw [hw]; exact ho
    | some r =>
      obtain ⟨t, q⟩ := r
      obtain ⟨h1, h2, h3, h4⟩ := around_in hr
      exact g.failIn h3 h4

def healR (y : Yd) (k : Nat) : Option Blk → Yd × Int
  | some _ => ({ y with failed := delK id k y.failed }, 0)
  | none => ({ y with free := layF y.n y.free k 0, failed := delK id k y.failed }, 0)
/-- What Heal makes of a yard, and answers, for a worker that is. -/
def healY (y : Yd) (k : Nat) : Yd × Int := if k ∈ y.failed then healR y k (heldY y.taken (k : Int)) else (y, 4)

theorem inB_has {y : Yd} (g : Good y) {b : Blk} (hb : b ∈ y.taken) (k : Nat) : inB b (k : Int) = true ↔ b.has k := by
  obtain ⟨h1, h2, h3⟩ := g.tin b hb
  unfold inB Blk.has
  rw [in_block h2, decide_eq_true_eq]
  omega

theorem heal_good {y : Yd} (g : Good y) (k : Nat) : Good (healY y k).1 := by
  unfold healY
  split
  · rename_i hm
    cases hb : heldY y.taken (k : Int) with
    | some b =>
      have h1 := List.mem_of_find?_eq_some hb
      have h2 := List.find?_some hb
      exact g.healIn hm h1 ((inB_has g h1 k).1 h2)
    | none =>
      have h1 := List.find?_eq_none.1 hb
      exact g.healOut hm fun b hb hh => h1 b hb ((inB_has g hb k).2 hh)
  · exact g

set_option maxHeartbeats 4000000 in
set_option maxRecDepth 100000 in
theorem fail_bad {w : World} {yb : Nat} {cs : Array Value} {y : Yd} (h : YardAt w yb cs y) (x : Int) (hx : isY y x = false) :
    Calls Try.prog 13 #[.pointer (some ⟨yb, 0, none⟩), .int .i64 x] w fun e w' => e = .returned (.int .i64 2) ∧ w' = w := by
  have his := is_calls h x
  rw [hx] at his
  clear hx
  go_enter Try.func13, Try.ntmps13
  go_wp2_with fail
  refine his.mono ?_
  rintro e w' ⟨rfl, rfl⟩
  go_wp2_with fail
  go_ret
  exact ⟨rfl, rfl⟩

set_option maxHeartbeats 4000000 in
set_option maxRecDepth 100000 in
theorem heal_bad {w : World} {yb : Nat} {cs : Array Value} {y : Yd} (h : YardAt w yb cs y) (x : Int) (hx : isY y x = false) :
    Calls Try.prog 15 #[.pointer (some ⟨yb, 0, none⟩), .int .i64 x] w fun e w' => e = .returned (.int .i64 2) ∧ w' = w := by
  have his := is_calls h x
  rw [hx] at his
  clear hx
  go_enter Try.func15, Try.ntmps15
  go_wp2_with fail
  refine his.mono ?_
  rintro e w' ⟨rfl, rfl⟩
  go_wp2_with fail
  go_ret
  exact ⟨rfl, rfl⟩

set_option maxHeartbeats 4000000 in
set_option maxRecDepth 100000 in
theorem fail_ok {w : World} {yb : Nat} {cs : Array Value} {y : Yd} (h : YardAt w yb cs y) (g : Good y) (k : Nat) (hk : k < 2 ^ y.n) :
    Calls Try.prog 13 #[.pointer (some ⟨yb, 0, none⟩), .int .i64 (k : Int)] w fun e w' => e = .returned (.int .i64 (failY y k).2) ∧ ∃ cs', YardAt w' yb cs' (failY y k).1 ∧ Step w yb cs w' cs' := by
  have hp10 := pow_le_1024 g.le
  have his := is_calls h (k : Int)
  rw [show isY y (k : Int) = true by unfold isY; rw [decide_eq_true_eq]; omega] at his
  obtain ⟨T, hT⟩ : ∃ T, T = failY y k := ⟨_, rfl⟩
  rw [← hT]
  have HT := Lib.hid hT
  clear hT
  obtain ⟨V, hV⟩ : ∃ V, V = at_ cs 13 := ⟨_, rfl⟩
  obtain ⟨a, c, hf, hn, hc, hg⟩ := own_form h.failed
  rw [← hV] at hf
  have ho1 : OwnN w (.slice a y.failed.length c) y.failed := by rw [← hf, hV]; exact h.failed
  have c2 : w.cell? ⟨yb, 13, none⟩ = some (.slice a y.failed.length c) := by rw [← hf, hV]; exact h.cell 13 (by omega)
  obtain ⟨l, hll⟩ : ∃ l, l = y.failed := ⟨_, rfl⟩
  have hinc := g.finc
  have htl := g.flen
  rw [← hll] at ho1 c2 hf hn hg hinc htl
  have hsr := search_own ho1 hinc.sort (by omega) k
  have HV := Lib.hid hV
  have HF := Lib.hid hf
  have HLL := Lib.hid hll
  have har := fun W cs2 (hW : YardAt W yb cs2 { y with failed := insK id k y.failed }) => around_calls hW k 0 (by omega) (by omega) g.sort (fun q => by have := g.len q; show (y.free q).length ≤ _; omega)
  have hsp := fun t q (hq : aroundF y.n y.free k 0 = some (t, q)) W cs2 (hW : YardAt W yb cs2 { y with failed := insK id k y.failed }) => split_calls hW t q k 0 (around_in hq).2.1 (by have := (g.free_in (around_in hq).2.2.1).2.2.1; omega) (around_in hq).2.2.1 (g.free_in (around_in hq).2.2.1).2.1 (Nat.mod_one k) (around_in hq).1 (around_in hq).2.2.2 g.sort (fun q => by have := g.len q; show (y.free q).length + 11 ≤ _; omega)
  have HAR := Lib.hid har
  have HSP := Lib.hid hsp
  have hnf : ∀ i, w.heap.size ≤ i → ¬ foot yb cs i := fun i hi hf => by have := h.foot_lt i hf; omega
  clear hV hf hll har hsp
  by_cases hm : k ∈ l
  · rw [show decide (k ∈ l) = true by simpa using hm] at hsr
    have hT2 : T = (y, 30) := by rw [HT.out, failY, ← HLL.out, if_pos hm]
    have HT2 := Lib.hid hT2
    clear hT2 hm hinc hk hp10
    go_enter Try.func13, Try.ntmps13
    go_wp2_with fail
    refine his.mono ?_
    rintro e w' ⟨rfl, rfl⟩
    go_wp2_with fail
    refine hsr.mono ?_
    rintro e w' ⟨rfl, q, rfl⟩
    go_wp2_with fail
    go_ret
    rw [HT2.out]
    exact ⟨rfl, cs, h.drewN q, (Step.refl _ _ _).drewN q⟩
  · rw [show decide (k ∈ l) = false by simpa using hm] at hsr
    obtain ⟨r, hr⟩ : ∃ r, r = aroundF y.n y.free k 0 := ⟨_, rfl⟩
    have hT2 : T = failR y k r := by rw [HT.out, failY, ← HLL.out, if_neg hm, hr]
    have HT2 := Lib.hid hT2
    have HR := Lib.hid hr
    obtain ⟨p, hp⟩ : ∃ p, p = posK id k l := ⟨_, rfl⟩
    have hpl : p ≤ l.length := by rw [hp]; exact posK_le _ _ _
    rw [← hp] at hsr
    have HP := Lib.hid hp
    clear hT2 hm hinc hk hp10 hr hp
    go_enter Try.func13, Try.ntmps13
    go_wp2_with fail
    refine his.mono ?_
    rintro e w' ⟨rfl, rfl⟩
    go_wp2_with fail
    refine hsr.mono ?_
    rintro e w1 ⟨rfl, q, rfl⟩
    have hy1 : YardAt (w'.drewN q) yb cs y := h.drewN q
    have hst1 : Step w' yb cs (w'.drewN q) cs := (Step.refl _ _ _).drewN q
    replace ho1 : OwnN (w'.drewN q) (.slice a l.length c) l := by rw [← HF.out, HV.out, HLL.out]; exact hy1.failed
    replace c2 : (w'.drewN q).cell? ⟨yb, 13, none⟩ = some (.slice a l.length c) := c2
    have hsq : (w'.drewN q).heap.size = w'.heap.size := rfl
    rw [← hsq] at hnf
    clear hsq
    generalize w'.drewN q = W1 at *
    obtain ⟨W3, hW3⟩ : ∃ W3, W3 = W1.alloc (.cells #[.int .i64 (k : Int)] 3) := ⟨_, rfl⟩
    have hvb : W3.heap[W1.heap.size]? = some (.cells #[.int .i64 (k : Int)] 3 (0, 0)) := by rw [hW3]; exact box_heap W1 _ _
    have hy3 : YardAt W3 yb cs y := by rw [hW3]; exact hy1.alloc _
    have hst3 : Step w' yb cs W3 cs := by rw [hW3]; exact hst1.alloc _
    have ho3 : OwnN W3 (.slice a l.length c) l := by rw [← HF.out, HV.out, HLL.out]; exact hy3.failed
    have c3 : W3.cell? ⟨yb, 13, none⟩ = some (.slice a l.length c) := by rw [← HF.out, HV.out]; exact hy3.cell 13 (by omega)
    have d3 := c3
    rw [hW3] at d3
    have HW3 := Lib.hid hW3
    clear hW3
    have hVn : ∀ k, V.ownBlock = some k → k ≠ yb ∧ k ≠ W1.heap.size := fun k hk => by
      rw [HV.out] at hk
      refine ⟨fun e => hy3.own 13 (by omega) (by omega) (e ▸ hk), fun e => hnf k (by omega) (.inr ⟨13, by omega, by omega, hk⟩)⟩
    go_wp2_with fail
    rw [← HW3.out]
    refine (insN (w := W3) ho3 p k W1.heap.size hpl hvb (by rw [← HF.out]; exact fun e => (hVn _ e).2 rfl) (by omega)).mono ?_
    rintro e w4 ⟨v', rfl, hd, hmv⟩
    rw [← HF.out] at hmv
    have e3 : w4.frozen? ⟨yb, 13, none⟩ = false := by
      rw [World.frozen?_of_block (hmv.grown.block yb hy3.lt (fun e => (hVn _ e.symm).1 rfl))]
      exact hy3.frozen _
    replace c3 := hmv.grown.cell c3 (fun e => (hVn _ e.symm).1 rfl)
    obtain ⟨L', hL'⟩ : ∃ L', L' = l.take p ++ k :: l.drop p := ⟨_, rfl⟩
    rw [← hL'] at hd
    have HL' := Lib.hid hL'
    clear hL'
    obtain ⟨a', c', rfl, _, _, _⟩ := own_form hd
    rw [HV.out] at hmv
    obtain ⟨hy4, hst4⟩ := hy3.put_failed hmv hd
    have hy4' : YardAt (w4.setCell ⟨yb, 13, none⟩ (.slice a' L'.length c')) yb (cs.setIfInBounds 13 (.slice a' L'.length c')) { y with failed := insK id k y.failed } := by
      rw [show insK id k y.failed = L' by rw [HL'.out, HP.out, HLL.out]; rfl]; exact hy4
    clear hy4 d3 hy1 hst1
    obtain ⟨cs5, hcs5⟩ : ∃ cs5, cs5 = cs.setIfInBounds 13 (.slice a' L'.length c') := ⟨_, rfl⟩
    rw [← hcs5] at hy4' hst4
    clear hcs5
    obtain ⟨W5, hW5⟩ : ∃ W5, W5 = w4.setCell ⟨yb, 13, none⟩ (.slice a' L'.length c') := ⟨_, rfl⟩
    rw [← hW5] at hy4' hst4
    obtain ⟨D, hD⟩ : ∃ D, D = W5.heap.size := ⟨_, rfl⟩
    have hD4 : D = w4.heap.size := by rw [hD, hW5]; simp
    have HD := Lib.hid hD4
    obtain ⟨W6, hW6⟩ : ∃ W6, W6 = W5.alloc (.cells #[.int .i64 (k : Int), .int .i64 0] 31) := ⟨_, rfl⟩
    have hb6 : W6.heap[D]? = some (.cells #[.int .i64 (k : Int), .int .i64 0] 31 (0, 0)) := by rw [hW6, hD]; exact box_heap _ _ _
    have hy6 : YardAt W6 yb cs5 { y with failed := insK id k y.failed } := by rw [hW6]; exact hy4'.alloc _
    have hst6 : Step w' yb cs W6 cs5 := by rw [hW6]; exact (hst3.trans hst4).alloc _
    have hnd : ¬ foot yb cs5 D := fun hf => by have := hy4'.foot_lt D hf; omega
    have HW6 : Hid (W6 = (w4.setCell ⟨yb, 13, none⟩ (.slice a' L'.length c')).alloc (.cells #[.int .i64 (k : Int), .int .i64 0] 31)) := Lib.hid (by rw [hW6, hW5])
    clear hW6 hW5 hD4
    have hl6 : D < W6.heap.size := (Array.getElem?_eq_some_iff.1 hb6).1
    go_wp2_with fail
    rw [← HW6.out]
    refine (HAR.out _ _ hy6).mono ?_
    rintro e w7 ⟨rfl, hbl⟩
    rw [← HR.out]
    have hy7 := hy6.below hbl
    have hst7 := hst6.below hbl
    replace hb6 := (hbl.block D hl6).trans hb6
    have hl7 : D < w7.heap.size := (Array.getElem?_eq_some_iff.1 hb6).1
    cases r with
    | none =>
      have hT3 : T = ({ y with failed := insK id k y.failed }, 0) := HT2.out
      have HT3 := Lib.hid hT3
      clear hT3
      simp only [arV]
      go_wp2_with fail
      go_ret
      rw [HT3.out]
      exact ⟨rfl, cs5, hy7.alloc _, hst7.alloc _⟩
    | some r =>
      obtain ⟨t, q1⟩ := r
      have hT3 : T = ({ y with free := splitF y.free t q1 k 0, failed := insK id k y.failed }, 0) := HT2.out
      have HT3 := Lib.hid hT3
      have HSQ := Lib.hid (HSP.out t q1 HR.out.symm)
      clear hT3
      simp only [arV]
      obtain ⟨C, hC⟩ : ∃ C, C = w7.heap.size := ⟨_, rfl⟩
      obtain ⟨W8, hW8⟩ : ∃ W8, W8 = w7.alloc (.cells #[.int .i64 (t : Int), .int .i64 (q1 : Int)] 31) := ⟨_, rfl⟩
      have hc8 : W8.heap[C]? = some (.cells #[.int .i64 (t : Int), .int .i64 (q1 : Int)] 31 (0, 0)) := by rw [hW8, hC]; exact box_heap _ _ _
      have hb8 : W8.heap[D]? = some (.cells #[.int .i64 (k : Int), .int .i64 0] 31 (0, 0)) := by rw [hW8, heap_alloc_old _ _ hl7]; exact hb6
      have hy8 : YardAt W8 yb cs5 { y with failed := insK id k y.failed } := by rw [hW8]; exact hy7.alloc _
      have hst8 : Step w' yb cs W8 cs5 := by rw [hW8]; exact hst7.alloc _
      obtain ⟨e0, e1⟩ := two_cells hb8
      rw [hW8, HD.out] at e0 e1
      have HW8 := Lib.hid hW8
      clear hW8 hC
      go_wp2_with fail
      rw [← HW8.out]
      refine (HSQ.out _ _ hy8).mono ?_
      rintro e w9 ⟨rfl, cs9, hy9, hst9⟩
      go_wp2_with fail
      go_ret
      rw [HT3.out]
      exact ⟨rfl, cs9, hy9, hst8.trans hst9⟩

set_option maxHeartbeats 8000000 in
set_option maxRecDepth 100000 in
theorem heal_ok {w : World} {yb : Nat} {cs : Array Value} {y : Yd} (h : YardAt w yb cs y) (g : Good y) (k : Nat) (hk : k < 2 ^ y.n) :
    Calls Try.prog 15 #[.pointer (some ⟨yb, 0, none⟩), .int .i64 (k : Int)] w fun e w' => e = .returned (.int .i64 (healY y k).2) ∧ ∃ cs', YardAt w' yb cs' (healY y k).1 ∧ Step w yb cs w' cs' := by
  have hp10 := pow_le_1024 g.le
  have his := is_calls h (k : Int)
  rw [show isY y (k : Int) = true by unfold isY; rw [decide_eq_true_eq]; omega] at his
  obtain ⟨T, hT⟩ : ∃ T, T = healY y k := ⟨_, rfl⟩
  rw [← hT]
  have HT := Lib.hid hT
  clear hT
  obtain ⟨V, hV⟩ : ∃ V, V = at_ cs 13 := ⟨_, rfl⟩
  obtain ⟨a, c, hf, hn, hc, hg⟩ := own_form h.failed
  rw [← hV] at hf
  have ho1 : OwnN w (.slice a y.failed.length c) y.failed := by rw [← hf, hV]; exact h.failed
  have c2 : w.cell? ⟨yb, 13, none⟩ = some (.slice a y.failed.length c) := by rw [← hf, hV]; exact h.cell 13 (by omega)
  obtain ⟨l, hll⟩ : ∃ l, l = y.failed := ⟨_, rfl⟩
  have hinc := g.finc
  have htl := g.flen
  rw [← hll] at ho1 c2 hf hn hg hinc htl
  have hsr := search_own ho1 hinc.sort (by omega) k
  have HV := Lib.hid hV
  have HF := Lib.hid hf
  have HLL := Lib.hid hll
  have hhe := fun W cs2 (hW : YardAt W yb cs2 { y with failed := delK id k y.failed }) => held_calls hW (fun b hb => by have := g.tin b hb; have := g.le; have := pow_pos' b.o; omega) (by have := g.tlen; show y.taken.length ≤ _; omega) (k : Int)
  have hly := fun W cs2 (hW : YardAt W yb cs2 { y with failed := delK id k y.failed }) => lay_calls hW k 0 (Nat.zero_le _) (by omega) g.sort (fun q => by have := g.len q; show (y.free q).length ≤ _; omega)
  have HHE := Lib.hid hhe
  have HLY := Lib.hid hly
  have hnf : ∀ i, w.heap.size ≤ i → ¬ foot yb cs i := fun i hi hf => by have := h.foot_lt i hf; omega
  clear hV hf hll hhe hly
  by_cases hm : k ∈ l
  · rw [show decide (k ∈ l) = true by simpa using hm] at hsr
    obtain ⟨r, hr⟩ : ∃ r, r = heldY y.taken (k : Int) := ⟨_, rfl⟩
    have hT2 : T = healR y k r := by rw [HT.out, healY, ← HLL.out, if_pos hm, hr]
    obtain ⟨p, hp⟩ : ∃ p, p = posK id k l := ⟨_, rfl⟩
    have hpl : p < l.length := by
      rw [hp]
      have := length_delK id hinc.sort hm rfl
      rcases Nat.lt_or_ge (posK id k l) l.length with hh | hh
      · exact hh
      · rw [show id k = k from rfl, delK, List.eraseIdx_of_length_le hh] at this
        omega
    rw [← hp] at hsr
    have hpn : IntKind.i64.wrap ((p : Int) + 1) = (p : Int) + 1 := by rw [IntKind.wrap_i64]; omega
    have HP := Lib.hid hp
    have HRR := Lib.hid hr
    have HTT := Lib.hid hT2
    clear hm hinc hk hp10 hp hT2 hr
    go_enter Try.func15, Try.ntmps15
    go_wp2_with fail
    refine his.mono ?_
    rintro e w' ⟨rfl, rfl⟩
    go_wp2_with fail
    refine hsr.mono ?_
    rintro e w1 ⟨rfl, q, rfl⟩
    have hy1 : YardAt (w'.drewN q) yb cs y := h.drewN q
    have hst1 : Step w' yb cs (w'.drewN q) cs := (Step.refl _ _ _).drewN q
    replace ho1 : OwnN (w'.drewN q) (.slice a l.length c) l := by rw [← HF.out, HV.out, HLL.out]; exact hy1.failed
    replace c2 : (w'.drewN q).cell? ⟨yb, 13, none⟩ = some (.slice a l.length c) := c2
    generalize w'.drewN q = W1 at *
    have hVn : ∀ k, V.ownBlock = some k → k ≠ yb := fun k hk => by
      rw [HV.out] at hk
      exact fun e => hy1.own 13 (by omega) (by omega) (e ▸ hk)
    go_wp2_with fail
    refine (delN ho1 p hpl).mono ?_
    rintro e w4 ⟨v', rfl, hd, hmv⟩
    rw [← HF.out] at hmv
    have e3 : w4.frozen? ⟨yb, 13, none⟩ = false := by
      rw [World.frozen?_of_block (hmv.grown.block yb hy1.lt (fun e => (hVn _ e.symm) rfl))]
      exact hy1.frozen _
    have c3 := hmv.grown.cell c2 (fun e => (hVn _ e.symm) rfl)
    obtain ⟨L', hL'⟩ : ∃ L', L' = l.eraseIdx p := ⟨_, rfl⟩
    rw [← hL'] at hd
    have HL' := Lib.hid hL'
    clear hL'
    obtain ⟨a', c', rfl, _, _, _⟩ := own_form hd
    rw [HV.out] at hmv
    obtain ⟨hy4, hst4⟩ := hy1.put_failed hmv hd
    have hy4' : YardAt (w4.setCell ⟨yb, 13, none⟩ (.slice a' L'.length c')) yb (cs.setIfInBounds 13 (.slice a' L'.length c')) { y with failed := delK id k y.failed } := by
      rw [show delK id k y.failed = L' by rw [HL'.out, HP.out, HLL.out]; rfl]; exact hy4
    obtain ⟨cs5, hcs5⟩ : ∃ cs5, cs5 = cs.setIfInBounds 13 (.slice a' L'.length c') := ⟨_, rfl⟩
    rw [← hcs5] at hy4' hst4
    clear hcs5 hy4 c2
    go_wp2_with fail
    generalize w4.setCell ⟨yb, 13, none⟩ (.slice a' L'.length c') = W5 at *
    refine (HHE.out _ _ hy4').mono ?_
    rintro e w7 ⟨rfl, hbl⟩
    have hy7 := hy4'.below hbl
    have hst7 := (hst1.trans hst4).below hbl
    have hr2 : heldY ({ y with failed := delK id k y.failed } : Yd).taken (k : Int) = r := HRR.out.symm
    rw [hr2]
    cases r with
    | some b =>
      have hT3 : T = ({ y with failed := delK id k y.failed }, 0) := HTT.out
      have HT3 := Lib.hid hT3
      clear hT3 hr2
      simp only [hvV]
      go_wp2_with fail
      go_ret
      rw [HT3.out]
      exact ⟨rfl, cs5, hy7.alloc _, hst7.alloc _⟩
    | none =>
      have hT3 : T = ({ y with free := layF y.n y.free k 0, failed := delK id k y.failed }, 0) := HTT.out
      have HT3 := Lib.hid hT3
      clear hT3 hr2
      simp only [hvV]
      go_wp2_with fail
      refine (HLY.out _ _ (hy7.alloc _)).mono ?_
      rintro e w9 ⟨rfl, cs9, hy9, hst9⟩
      go_wp2_with fail
      go_ret
      rw [HT3.out]
      exact ⟨rfl, cs9, hy9, (hst7.alloc _).trans hst9⟩
  · rw [show decide (k ∈ l) = false by simpa using hm] at hsr
    have hT2 : T = (y, 4) := by rw [HT.out, healY, ← HLL.out, if_neg hm]
    have HT2 := Lib.hid hT2
    clear hT2 hm hinc hk hp10
    go_enter Try.func15, Try.ntmps15
    go_wp2_with fail
    refine his.mono ?_
    rintro e w' ⟨rfl, rfl⟩
    go_wp2_with fail
    refine hsr.mono ?_
    rintro e w' ⟨rfl, q, rfl⟩
    go_wp2_with fail
    go_ret
    rw [HT2.out]
    exact ⟨rfl, cs, h.drewN q, (Step.refl _ _ _).drewN q⟩
end Go.Proofs.Ythmgnfkjkdmdoaa
