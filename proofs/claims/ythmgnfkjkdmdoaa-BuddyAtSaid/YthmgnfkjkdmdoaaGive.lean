/- Contract: Give. -/
import Derived.Test.YthmgnfkjkdmdoaaModel
import Derived.Test.YthmgnfkjkdmdoaaOpen2
set_option linter.unusedSimpArgs false
set_option linter.unusedVariables false
namespace Go.Proofs.Ythmgnfkjkdmdoaa
open Go Go.RowKit Bud

/-- The taken block of a start. -/
def byS (x : Int) (l : List Blk) : Option Blk := l.find? fun b => decide ((b.s : Int) = x)
theorem byS_none {x : Int} {l : List Blk} (h : hasI x l = false) : byS x l = none := by
  unfold hasI at h
  rw [List.any_eq_false] at h
  exact List.find?_eq_none.2 fun b hb => h b hb
theorem byS_some {x : Int} {l : List Blk} (hs : IncK Blk.s l) (h : hasI x l = true) : ∃ b, byS x l = some b ∧ b ∈ l ∧ (b.s : Int) = x ∧ l[posI x l]? = some b ∧ posI x l = posK Blk.s b.s l := by
  unfold hasI at h
  rw [List.any_eq_true] at h
  obtain ⟨b, hb, hx⟩ := h
  have hx : (b.s : Int) = x := by simpa using hx
  subst hx
  obtain ⟨d, r, hd, he⟩ := at_posK Blk.s hs.sort hb rfl
  have hdl : d ∈ l := List.mem_of_mem_drop (by rw [hd]; exact List.mem_cons_self)
  have huniq : ∀ c ∈ l, c.s = b.s → c = b := by
    intro c hc e
    obtain ⟨i, hi⟩ := List.getElem?_of_mem hc
    obtain ⟨j, hj⟩ := List.getElem?_of_mem hb
    obtain ⟨hi', rfl⟩ := List.getElem?_eq_some_iff.1 hi
    obtain ⟨hj', rfl⟩ := List.getElem?_eq_some_iff.1 hj
    rcases Nat.lt_trichotomy i j with h1 | h1 | h1
    · have := List.pairwise_iff_getElem.1 hs i j hi' hj' h1; omega
    · subst h1; rfl
    · have := List.pairwise_iff_getElem.1 hs j i hj' hi' h1; omega
  have hdb : d = b := huniq d hdl he
  subst hdb
  refine ⟨d, ?_, hb, rfl, ?_, posI_nat d.s l⟩
  · unfold byS
    cases hf : l.find? fun b => decide ((b.s : Int) = (d.s : Int)) with
    | none =>
      have := List.find?_eq_none.1 hf d hb
      simp at this
    | some c =>
      have h1 := List.find?_some hf
      have h2 := List.mem_of_find?_eq_some hf
      have h1 : c.s = d.s := by
        have h5 := h1
        simp only [decide_eq_true_eq] at h5
        omega
      rw [huniq c h2 h1]
  · rw [posI_nat]
    have : (l.drop (posK Blk.s d.s l))[0]? = some d := by rw [hd]; rfl
    simpa using this

/-- What Give makes of a yard, and answers. -/
def giveY (y : Yd) (x : Int) : Yd × Int :=
  match byS x y.taken with
  | none => (y, 4)
  | some b => ({ y with free := openF y.n y.failed y.free b.s b.o, taken := delK Blk.s b.s y.taken }, 0)

theorem give_good {y : Yd} (g : Good y) (x : Int) : Good (giveY y x).1 := by
  unfold giveY
  split
  · exact g
  · rename_i b hb
    exact g.give (List.mem_of_find?_eq_some hb)

set_option maxHeartbeats 8000000 in
set_option maxRecDepth 100000 in
theorem give_calls {w : World} {yb : Nat} {cs : Array Value} {y : Yd} (h : YardAt w yb cs y) (g : Good y) (x : Int) :
    Calls Try.prog 32 #[.pointer (some ⟨yb, 0, none⟩), .int .i64 x] w fun e w' => e = .returned (.int .i64 (giveY y x).2) ∧ ∃ cs', YardAt w' yb cs' (giveY y x).1 ∧ Step w yb cs w' cs' := by
  obtain ⟨T, hT⟩ : ∃ T, T = giveY y x := ⟨_, rfl⟩
  rw [← hT]
  have HT := Lib.hid hT
  clear hT
  obtain ⟨V, hV⟩ : ∃ V, V = at_ cs 12 := ⟨_, rfl⟩
  obtain ⟨a, c, hf, hn, hc, hg⟩ := own_form h.taken
  rw [← hV] at hf
  have ho1 : OwnB w (.slice a y.taken.length c) y.taken := by rw [← hf, hV]; exact h.taken
  have c2 : w.cell? ⟨yb, 12, none⟩ = some (.slice a y.taken.length c) := by rw [← hf, hV]; exact h.cell 12 (by omega)
  obtain ⟨l, hll⟩ : ∃ l, l = y.taken := ⟨_, rfl⟩
  have hinc := g.tinc
  have htl := g.tlen
  rw [← hll] at ho1 c2 hf hn hg hinc htl
  have hsr := bsf_calls ho1 hinc.sort (by omega) x
  have HV := Lib.hid hV
  have HF := Lib.hid hf
  have HLL := Lib.hid hll
  clear hV hf hll
  cases hh : hasI x l with
  | false =>
    rw [hh] at hsr
    have hT2 : T = (y, 4) := by rw [HT.out, giveY, ← HLL.out, byS_none hh]
    have HT2 := Lib.hid hT2
    clear hT2 hh hinc
    go_enter Try.func32, Try.ntmps32
    go_wp2_with fail
    refine hsr.mono ?_
    rintro e w1 ⟨rfl, hbl⟩
    go_wp2_with fail
    go_ret
    rw [HT2.out]
    exact ⟨rfl, cs, h.below hbl, Step.of_below hbl⟩
  | true =>
    rw [hh] at hsr
    obtain ⟨b, hb1, hb2, hb3, hb4, hb5⟩ := byS_some hinc hh
    have hT2 : T = ({ y with free := openF y.n y.failed y.free b.s b.o, taken := delK Blk.s b.s y.taken }, 0) := by rw [HT.out, giveY, ← HLL.out, hb1]
    have HT2 := Lib.hid hT2
    obtain ⟨p, hp⟩ : ∃ p, p = posI x l := ⟨_, rfl⟩
    rw [← hp] at hsr hb4 hb5
    have hpl : p < l.length := (List.getElem?_eq_some_iff.1 hb4).1
    obtain ⟨gb, rfl⟩ := hg.resolve_left (by omega)
    obtain ⟨e0, e1⟩ := ho1.two rfl p b hb4
    obtain ⟨s, o⟩ := b
    simp only at e0 e1 hT2
    have hbt := g.tin ⟨s, o⟩ (by rw [← HLL.out]; exact hb2)
    obtain ⟨hbo, hba, hbs⟩ := hbt
    simp only at hbo hba hbs
    have hp10 := pow_le_1024 g.le
    have hop := fun W cs2 (hW : YardAt W yb cs2 { y with taken := delK Blk.s s y.taken }) => open_calls o hW s hbo (by omega) g.sort (fun q => by have := g.len q; show (y.free q).length + 2 ^ o ≤ _; omega) (by have := g.flen; show y.failed.length ≤ _; omega)
    have HOP := Lib.hid hop
    have HP5 := Lib.hid hb5
    have hpn : IntKind.i64.wrap ((p : Int) + 1) = (p : Int) + 1 := by rw [IntKind.wrap_i64]; omega
    have i0 : (0 : Int) ≤ (p : Int) := by omega
    have i1 : (p : Int) < (l.length : Int) := by omega
    clear hT2 hh hinc hb1 hb2 hb3 hb4 hp hbo hba hbs hop hb5
    have hnf : ∀ i, w.heap.size ≤ i → ¬ foot yb cs i := fun i hi hf => by have := h.foot_lt i hf; omega
    go_enter Try.func32, Try.ntmps32
    go_wp2_with fail
    refine hsr.mono ?_
    rintro e w1 ⟨rfl, hbl⟩
    have hy1 := h.below hbl
    have hst1 : Step w yb cs w1 cs := Step.of_below hbl
    replace e0 := (hbl.cell (p := ⟨gb, p * 2, none⟩) (World.block_lt_of_cell? w _ e0)).trans e0
    replace e1 := (hbl.cell (p := ⟨gb, p * 2 + 1, none⟩) (World.block_lt_of_cell? w _ e1)).trans e1
    replace c2 := (hbl.cell (p := ⟨yb, 12, none⟩) h.lt).trans c2
    obtain ⟨C, hC⟩ : ∃ C, C = w1.heap.size := ⟨_, rfl⟩
    obtain ⟨W3, hW3⟩ : ∃ W3, W3 = w1.alloc (.cells #[.int .i64 (s : Int), .int .i64 (o : Int)] 31) := ⟨_, rfl⟩
    have hc3 : W3.heap[C]? = some (.cells #[.int .i64 (s : Int), .int .i64 (o : Int)] 31 (0, 0)) := by rw [hW3, hC]; exact box_heap _ _ _
    have hy3 : YardAt W3 yb cs y := by rw [hW3]; exact hy1.alloc _
    have hst3 : Step w yb cs W3 cs := by rw [hW3]; exact hst1.alloc _
    have ho3 : OwnB W3 (.slice (some ⟨gb, 0, none⟩) l.length c) l := by rw [← HF.out, HV.out, HLL.out]; exact hy3.taken
    have c3 : W3.cell? ⟨yb, 12, none⟩ = some (.slice (some ⟨gb, 0, none⟩) l.length c) := by rw [← HF.out, HV.out]; exact hy3.cell 12 (by omega)
    have d3 := c3
    rw [hW3] at d3
    have hnc : ¬ foot yb cs C := hnf C (by rw [hC]; exact hbl.size)
    have hdl := delB ho3 p hpl
    have HW3 := Lib.hid hW3
    have HC := Lib.hid hC
    clear hW3 hC
    go_wp2_with fail
    rw [← HW3.out]
    refine hdl.mono ?_
    rintro e w4 ⟨v', rfl, hd, hmv⟩
    have hVn : ∀ k, V.ownBlock = some k → k ≠ yb ∧ k ≠ C := fun k hk => by
      rw [HV.out] at hk
      exact ⟨fun e => hy3.own 12 (by omega) (by omega) (e ▸ hk), fun e => hnc (.inr ⟨12, by omega, by omega, e ▸ hk⟩)⟩
    rw [← HF.out] at hmv
    replace hc3 := hmv.heap hc3 (fun e => (hVn _ e).2 rfl)
    have e3 : w4.frozen? ⟨yb, 12, none⟩ = false := by
      rw [World.frozen?_of_block (hmv.grown.block yb hy3.lt (fun e => (hVn _ e.symm).1 rfl))]
      exact hy3.frozen _
    replace c3 := hmv.grown.cell c3 (fun e => (hVn _ e.symm).1 rfl)
    obtain ⟨L', hL'⟩ : ∃ L', L' = l.eraseIdx p := ⟨_, rfl⟩
    rw [← hL'] at hd
    have HL' := Lib.hid hL'
    clear hL'
    obtain ⟨a', c', rfl, _, _, _⟩ := own_form hd
    rw [HV.out] at hmv
    have hput := hy3.put_taken hmv hd
    have hLe : L' = delK Blk.s s y.taken := by rw [HL'.out, HP5.out, HLL.out]; rfl
    rw [hLe] at hput
    rw [← hLe] at hput
    have hyC : C ≠ yb := fun e => hnc (.inl e)
    have hc4 : (w4.setCell ⟨yb, 12, none⟩ (.slice a' L'.length c')).heap[C]? = some (.cells #[.int .i64 (s : Int), .int .i64 (o : Int)] 31 (0, 0)) := by
      rw [Below.heap_setCell _ _ _ _ hyC]; exact hc3
    obtain ⟨d0, d1⟩ := two_cells hc4
    rw [HC.out] at d0 d1
    clear hc3 hLe
    go_wp2_with fail
    obtain ⟨hy4, hst4⟩ := hput
    have hy4' : YardAt (w4.setCell ⟨yb, 12, none⟩ (.slice a' L'.length c')) yb (cs.setIfInBounds 12 (.slice a' L'.length c')) { y with taken := delK Blk.s s y.taken } := by
      rw [show delK Blk.s s y.taken = L' by rw [HL'.out, HP5.out, HLL.out]; rfl]; exact hy4
    refine (HOP.out _ _ hy4').mono ?_
    rintro e w5 ⟨rfl, cs5, hy5, hst5⟩
    go_wp2_with fail
    go_ret
    rw [HT2.out]
    exact ⟨rfl, cs5, hy5, (hst3.trans hst4).trans hst5⟩
end Go.Proofs.Ythmgnfkjkdmdoaa
