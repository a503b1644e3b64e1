/- Contract: open. -/
import Derived.Test.YthmgnfkjkdmdoaaOpen
set_option linter.unusedSimpArgs false
set_option linter.unusedVariables false
namespace Go.Proofs.Ythmgnfkjkdmdoaa
open Go Go.RowKit Bud

set_option maxHeartbeats 4000000 in
set_option maxRecDepth 100000 in
theorem open_calls : ∀ (o : Nat) {w : World} {yb : Nat} {cs : Array Value} {y : Yd} (h : YardAt w yb cs y) (s : Nat) (ho : o ≤ y.n) (hs : s + 2 ^ o ≤ 2048) (hsrt : ∀ q, SortK id (y.free q)) (hl : ∀ q, (y.free q).length + 2 ^ o ≤ 1073741824) (hfl : y.failed.length ≤ 1073741824),
    Calls Try.prog 59 #[.pointer (some ⟨yb, 0, none⟩), .agg #[.int .i64 (s : Int), .int .i64 (o : Int)]] w fun e w' => e = .returned (.tuple #[]) ∧
      ∃ cs', YardAt w' yb cs' { y with free := openF y.n y.failed y.free s o } ∧ Step w yb cs w' cs' := by
  intro o
  induction o with
  | zero =>
    intro w yb cs y h s ho hs hsrt hl hfl
    have hle := h.le
    have hb : (w.alloc (.cells #[.int .i64 (s : Int), .int .i64 0] 31)).heap[w.heap.size]? = some (.cells #[.int .i64 (s : Int), .int .i64 0] 31 (0, 0)) := box_heap _ _ _
    have hy : YardAt (w.alloc (.cells #[.int .i64 (s : Int), .int .i64 0] 31)) yb cs y := h.alloc _
    have hst : Step w yb cs (w.alloc (.cells #[.int .i64 (s : Int), .int .i64 0] 31)) cs := (Step.refl _ _ _).alloc _
    have hnf : ¬ foot yb cs w.heap.size := fun hf => Nat.lt_irrefl _ (h.foot_lt _ hf)
    obtain ⟨a, c, hf, hn, hc, hg⟩ := own_form hy.failed
    have c3 : (w.alloc (.cells #[.int .i64 (s : Int), .int .i64 0] 31)).cell? ⟨yb, 13, none⟩ = some (.slice a y.failed.length c) := by rw [← hf]; exact hy.cell 13 (by omega)
    have hmf : ∀ (fn : Fn) (first cap : Array Value) (w : World), (Instr.makeFunc fn first cap).run Try.prog w = .ok (.func fn first cap) w := fun _ _ _ _ => rfl
    obtain ⟨c0, c1⟩ := two_cells hb
    have hco := contains70 ⟨s, 0⟩ w.heap.size (.slice a y.failed.length c) y.failed (w.alloc (.cells #[.int .i64 (s : Int), .int .i64 0] 31)) (by simp) (by simp; simp at hs; omega) (by simpa using hb) (by rw [← hf]; exact hy.failed) hfl
    have e1 : ((0 : Nat) : Int) = 0 := rfl
    rw [e1]
    simp only at hco
    by_cases hh : hasF y.failed s 0 = true
    · have hE : openF y.n y.failed y.free s 0 = y.free := by rw [openF, if_pos hh]
      rw [hE]
      simp only [hh] at hco
      clear hh hE ho hs hsrt hl hfl hn hc hg
      go_enter Try.func59, Try.ntmps59
      go_wp2_with fail
      refine hco.mono ?_
      rintro e w' ⟨rfl, hbl⟩
      replace hb := (hbl.block w.heap.size (by simp)).trans hb
      replace hy := hy.below hbl
      replace hst := hst.below hbl
      obtain ⟨d0, d1⟩ := two_cells hb
      go_wp2_with fail
      (try simp only [Exit.inBlock, Exit.then])
      refine bodyPost_ret (results_none rfl _ _ _) rfl ?_
      exact ⟨rfl, cs, hy, hst⟩
    · have hh' : hasF y.failed s 0 = false := by simpa using hh
      have hE : openF y.n y.failed y.free s 0 = layF y.n y.free s 0 := by rw [openF, if_neg hh]
      rw [hE]
      simp only [hh'] at hco
      have HLY := fun W (hW : YardAt W yb cs y) => lay_calls hW s 0 (Nat.zero_le _) (by simp at hs; omega) hsrt (fun q => by have := hl q; simp at this; omega)
      clear hh hh' hE ho hs hsrt hl hfl hn hc hg
      go_enter Try.func59, Try.ntmps59
      go_wp2_with fail
      refine hco.mono ?_
      rintro e w' ⟨rfl, hbl⟩
      replace hb := (hbl.block w.heap.size (by simp)).trans hb
      replace hy := hy.below hbl
      replace hst := hst.below hbl
      obtain ⟨d0, d1⟩ := two_cells hb
      have HL2 := HLY w' hy
      clear HLY
      go_wp2_with fail
      refine HL2.mono ?_
      rintro e w2 ⟨rfl, cs2, hy2, hst2⟩
      go_wp2_with fail
      (try simp only [Exit.inBlock, Exit.then])
      refine bodyPost_ret (results_none rfl _ _ _) rfl ?_
      exact ⟨rfl, cs2, hy2, hst.trans hst2⟩
  | succ o ih =>
    intro w yb cs y h s ho hs hsrt hl hfl
    have hle := h.le
    have hb : (w.alloc (.cells #[.int .i64 (s : Int), .int .i64 ((o : Int) + 1)] 31)).heap[w.heap.size]? = some (.cells #[.int .i64 (s : Int), .int .i64 ((o : Int) + 1)] 31 (0, 0)) := box_heap _ _ _
    have hy : YardAt (w.alloc (.cells #[.int .i64 (s : Int), .int .i64 ((o : Int) + 1)] 31)) yb cs y := h.alloc _
    have hst : Step w yb cs (w.alloc (.cells #[.int .i64 (s : Int), .int .i64 ((o : Int) + 1)] 31)) cs := (Step.refl _ _ _).alloc _
    have hnf : ¬ foot yb cs w.heap.size := fun hf => Nat.lt_irrefl _ (h.foot_lt _ hf)
    obtain ⟨a, c, hf, hn, hc, hg⟩ := own_form hy.failed
    have c3 : (w.alloc (.cells #[.int .i64 (s : Int), .int .i64 ((o : Int) + 1)] 31)).cell? ⟨yb, 13, none⟩ = some (.slice a y.failed.length c) := by rw [← hf]; exact hy.cell 13 (by omega)
    have hmf : ∀ (fn : Fn) (first cap : Array Value) (w : World), (Instr.makeFunc fn first cap).run Try.prog w = .ok (.func fn first cap) w := fun _ _ _ _ => rfl
    obtain ⟨c0, c1⟩ := two_cells hb
    have hp2 : 2 ^ (o + 1) = 2 ^ o + 2 ^ o := by rw [Nat.pow_succ]; omega
    have hp0 := Nat.two_pow_pos o
    have hco := contains70 ⟨s, o + 1⟩ w.heap.size (.slice a y.failed.length c) y.failed (w.alloc (.cells #[.int .i64 (s : Int), .int .i64 ((o : Int) + 1)] 31)) (by simp; omega) (by simp; omega) (by simpa using hb) (by rw [← hf]; exact hy.failed) hfl
    have e1 : ((o + 1 : Nat) : Int) = (o : Int) + 1 := by omega
    rw [e1]
    simp only at hco
    by_cases hh : hasF y.failed s (o + 1) = true
    · have hE : openF y.n y.failed y.free s (o + 1) = openF y.n y.failed (openF y.n y.failed y.free s o) (s + 2 ^ o) o := by rw [openF, if_pos hh]
      rw [hE]
      simp only [hh] at hco
      have b1 : ((o : Int) + 1 == 0) = false := by rw [beq_eq_false_iff_ne]; omega
      have b2 : ¬ ((o : Int) + 1 = 0) := by omega
      have ih1 := fun W (hW : YardAt W yb cs y) => ih hW s (by omega) (by omega) hsrt (fun q => by have := hl q; omega) hfl
      have hk1 := openF_keeps y.n y.failed o s y.free hsrt
      have ih2 := fun W cs2 (hW : YardAt W yb cs2 { y with free := openF y.n y.failed y.free s o }) => ih hW (s + 2 ^ o) (by show o ≤ y.n; omega) (by omega) hk1.1 (fun q => by have := hl q; have := hk1.2 q; show (openF y.n y.failed y.free s o q).length + 2 ^ o ≤ _; omega) hfl
      obtain ⟨P, hP⟩ : ∃ P, P = 2 ^ o := ⟨_, rfl⟩
      have hPl : P ≤ 2048 := by omega
      have hsz : ∀ W, Calls Try.prog 54 #[.int .i64 (o : Int)] W fun e w' => e = .returned (.int .i64 (P : Int)) ∧ w' = W := fun W => by rw [hP]; exact size_calls o (by omega) W
      rw [hp2] at hs
      rw [← hP] at ih2 hs
      have ec : ((s + P : Nat) : Int) = (s : Int) + (P : Int) := by omega
      rw [ec] at ih2
      rw [← hP]
      have hwr : IntKind.i64.wrap ((s : Int) + (P : Int)) = (s : Int) + (P : Int) := by rw [IntKind.wrap_i64]; omega
      have IH1 := Lib.hid ih1
      have IH2 := Lib.hid ih2
      clear hh hE hsrt hl hfl hn hc hg ih hk1 hP ec hp2 hp0 ih1 ih2 e1
      go_enter Try.func59, Try.ntmps59
      go_wp2_with fail
      refine hco.mono ?_
      rintro e w' ⟨rfl, hbl⟩
      replace hb := (hbl.block w.heap.size (by simp)).trans hb
      replace hy := hy.below hbl
      replace hst := hst.below hbl
      obtain ⟨d0, d1⟩ := two_cells hb
      have d2 := two_frozen hb 1
      clear c0 c1 c3
      go_wp2_with fail
      have hb2 : (w'.setCell ⟨w.heap.size, 1, none⟩ (.int .i64 (o : Int))).heap[w.heap.size]? = some (.cells #[.int .i64 (s : Int), .int .i64 (o : Int)] 31 (0, 0)) := by
        simp [World.setCell, Array.getElem?_modify, hb]
      have hy2 := hy.setOther ⟨w.heap.size, 1, none⟩ (.int .i64 (o : Int)) hnf
      have hst2 := hst.setNew ⟨w.heap.size, 1, none⟩ (.int .i64 (o : Int)) (Nat.le_refl _)
      generalize w'.setCell ⟨w.heap.size, 1, none⟩ (.int .i64 (o : Int)) = W2 at *
      refine (IH1.out W2 hy2).mono ?_
      rintro e w3 ⟨rfl, cs3, hy3, hst3⟩
      have hBl : w.heap.size < W2.heap.size := (Array.getElem?_eq_some_iff.1 hb2).1
      have hb3 := (hst3.keeps.block w.heap.size hBl hnf).trans hb2
      have hnf3 := hst3.notFoot hBl hnf
      obtain ⟨f0, f1⟩ := two_cells hb3
      have IH2' := IH2.out (w3.drew) cs3 (hy3.drewN 1)
      have HST := Lib.hid (hst2.trans hst3)
      clear hb2 hy2 hst2 hst3 hb hy hst d0 d1 d2 hbl hco hnf IH1 IH2 hy3
      go_wp2_with fail
      refine Thr.drawn [(0, false), (1, false), (2, false), (3, false), (4, false), (7, false), (8, false), (5, true), (6, false), (9, false), (10, true)] 10
        (fun w' => w'.cell? ⟨w.heap.size, 0, none⟩ = some (.int .i64 (s : Int)) ∧ w'.cell? ⟨w.heap.size, 1, none⟩ = some (.int .i64 (o : Int))) (by kernel_rfl) (by kernel_rfl) (fun c a w d v h => by cases d <;> exact h) ⟨f0, f1⟩ ?_
      simp only [Thr.pick, Array.reduceGetElem?]
      iterate 7
        apply Thr.read rfl
        · intro w' hS
          go_simp
          (repeat rw [if_pos (by omega)])
          try with_reducible rfl
        simp only [Act.put, List.setIfInBounds_toArray, List.set_cons_zero, List.set_cons_succ]
      apply Thr.act rfl
      intro K hK
      go_simp
      refine (hsz _).mono ?_
      rintro e w4 ⟨rfl, rfl⟩
      refine hK _ _ ⟨f0, f1⟩ ?_
      clear hK K
      try simp only [Act.put, List.setIfInBounds_toArray, List.set_cons_zero, List.set_cons_succ]
      iterate 2
        apply Thr.read rfl
        · intro w' hS
          go_simp
          (repeat rw [if_pos (by omega)])
          try with_reducible rfl
        simp only [Act.put, List.setIfInBounds_toArray, List.set_cons_zero, List.set_cons_succ]
      apply Thr.last rfl
      intro K hK
      go_simp
      refine IH2'.mono ?_
      rintro e w5 ⟨rfl, cs5, hy5, hst5⟩
      refine hK _ _ ?_
      go_wp2_with fail
      go_end0
      exact ⟨rfl, cs5, hy5, HST.out.trans ((Step.refl _ _ _).drewN 1 |>.trans hst5)⟩
    · have hh' : hasF y.failed s (o + 1) = false := by simpa using hh
      have hE : openF y.n y.failed y.free s (o + 1) = layF y.n y.free s (o + 1) := by rw [openF, if_neg hh]
      rw [hE]
      simp only [hh'] at hco
      have HLY := fun W (hW : YardAt W yb cs y) => lay_calls hW s (o + 1) ho (by omega) hsrt (fun q => by have := hl q; omega)
      rw [e1] at HLY
      clear hh hh' hE ho hs hsrt hl hfl hn hc hg ih hp2 hp0 e1
      go_enter Try.func59, Try.ntmps59
      go_wp2_with fail
      refine hco.mono ?_
      rintro e w' ⟨rfl, hbl⟩
      replace hb := (hbl.block w.heap.size (by simp)).trans hb
      replace hy := hy.below hbl
      replace hst := hst.below hbl
      obtain ⟨d0, d1⟩ := two_cells hb
      have HL2 := HLY w' hy
      clear HLY
      go_wp2_with fail
      refine HL2.mono ?_
      rintro e w2 ⟨rfl, cs2, hy2, hst2⟩
      go_wp2_with fail
      (try simp only [Exit.inBlock, Exit.then])
      refine bodyPost_ret (results_none rfl _ _ _) rfl ?_
      exact ⟨rfl, cs2, hy2, hst.trans hst2⟩
end Go.Proofs.Ythmgnfkjkdmdoaa
