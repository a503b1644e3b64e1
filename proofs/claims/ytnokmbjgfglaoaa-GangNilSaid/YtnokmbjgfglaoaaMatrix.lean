/- Contract: matrix (the law's own: one of order four on which some calls were made). -/
import Derived.Test.YtnokmbjgfglaoaaDet
set_option linter.unusedSimpArgs false
set_option linter.unusedVariables false
namespace Go.Proofs.Ytnokmbjgfglaoaa
open Go Go.RowKit Go.Lib Go.Sort

def NextM (n mb : Nat) (v : Value) (k : Nat) (W w2 : World) : Prop := ∃ v2 m2, MatAt w2 mb v2 m2 ∧ MStep W mb v w2 v2 ∧ Good m2 ∧ m2.n = n ∧ m2.cells.length ≤ k
theorem place_next {W : World} {n mb : Nat} {v : Value} {m : Mx} {k : Nat} (h : MatAt W mb v m) (hg : Good m) (h4 : m.n = n) (hl : m.cells.length ≤ k) (hk : k ≤ 100) (id : Nat) (o : Int) :
    Calls Try.prog 21 #[.pointer (some ⟨mb, 0, none⟩), .int .u32 (id : Int), .int .i64 o] W fun e w2 => (∃ rv, e = .returned rv) ∧ NextM n mb v (k + 1) W w2 := by
  refine (place_calls h (by omega) hg.fit hg.n id o).mono ?_
  rintro e w2 ⟨r, ev, m', v', rfl, hp, hm, hs⟩
  obtain ⟨hg', hl'⟩ := good_place hg hp
  refine ⟨⟨_, rfl⟩, v', m', hm, hs, hg', ?_, by omega⟩
  rcases hp with ⟨_, _, _, rfl⟩ | ⟨_, _, _, _, rfl⟩ | ⟨_, _, _, hpl⟩ | ⟨_, _, _, _, rfl, _⟩
  · exact h4
  · exact h4
  · rw [hpl.same.1]; exact h4
  · exact h4
theorem remove_next {W : World} {n mb : Nat} {v : Value} {m : Mx} {k : Nat} (h : MatAt W mb v m) (hg : Good m) (h4 : m.n = n) (hl : m.cells.length ≤ k) (hk : k ≤ 100) (id : Nat) :
    Calls Try.prog 22 #[.pointer (some ⟨mb, 0, none⟩), .int .u32 (id : Int)] W fun e w2 => (∃ rv, e = .returned rv) ∧ NextM n mb v (k + 1) W w2 := by
  refine (remove_calls h (by omega) (fun c hc => by have := hg.rows c hc; omega) (by have := hg.act_lt; omega) id).mono ?_
  rintro e w2 ⟨rfl, v', hm, hs⟩
  obtain ⟨hg', hl'⟩ := good_remove hg id
  refine ⟨⟨_, rfl⟩, v', _, hm, hs, hg', ?_, by omega⟩
  unfold removeM
  split <;> exact h4
theorem turn_next {W : World} {n mb : Nat} {v : Value} {m : Mx} {k : Nat} (h : MatAt W mb v m) (hg : Good m) (h4 : m.n = n) (hl : m.cells.length ≤ k) (hk : k ≤ 100) :
    Calls Try.prog 18 #[.pointer (some ⟨mb, 0, none⟩)] W fun e w2 => e = .returned (.tuple #[]) ∧ NextM n mb v (k + 1) W w2 := by
  refine (turn_calls h (by omega) (fun c hc => by have := hg.rows c hc; omega) (by have := hg.act_lt; omega)).mono ?_
  rintro e w2 ⟨rfl, hm, hs⟩
  exact ⟨rfl, v, _, hm, hs, good_turn hg, h4, Nat.le_succ_of_le hl⟩
theorem unify_next {W : World} {n mb : Nat} {v : Value} {m : Mx} {k : Nat} (h : MatAt W mb v m) (hg : Good m) (h4 : m.n = n) (hl : m.cells.length ≤ k) (hk : k ≤ 100) :
    Calls Try.prog 20 #[.pointer (some ⟨mb, 0, none⟩)] W fun e w2 => (∃ rv, e = .returned rv) ∧ NextM n mb v (k + 1) W w2 := by
  refine (unify_calls h (by omega) hg.fit (fun c hc => by have := hg.rows c hc; omega) (by have := hg.act_lt; omega)).mono ?_
  rintro e w2 ⟨m', q, v', rfl, hu, hm, hs⟩
  obtain ⟨hg', hl'⟩ := good_uni hg hu
  refine ⟨⟨_, rfl⟩, v', m', hm, hs, hg', ?_, by omega⟩
  obtain ⟨l2, _, _, rfl, _⟩ := hu
  exact h4

/-- A slice of acts, read. -/
def ActsAt (w : World) (a : Addr) (n : Nat) (A : Nat → Int × Nat × Int) : Prop :=
  ∀ j, j < n → w.cell? (a.add (j * 3)) = some (.int .i64 (A j).1) ∧ w.cell? (a.add (j * 3 + 1)) = some (.int .u32 ((A j).2.1 : Int)) ∧ w.cell? (a.add (j * 3 + 2)) = some (.int .i64 (A j).2.2)
/-- A slice of acts, nil or not. -/
def ActsV (w : World) (v : Value) (n : Nat) (A : Nat → Int × Nat × Int) : Prop := n ≤ maxLen ∧ ((v = .slice none 0 0 ∧ n = 0) ∨ ∃ a c, v = .slice (some a) n c ∧ ActsAt w a n A)
/-- What matrix hands out. -/
def MatrixE (w : World) (e : Ending) (w' : World) : Prop := ∃ mb v m, e = .returned (.pointer (some ⟨mb, 0, none⟩)) ∧ MatAt w' mb v m ∧ Good m ∧ m.n = 4 ∧ m.cells.length ≤ 50 ∧ (∀ k, footM mb v k → w.heap.size ≤ k) ∧ Below w.heap.size w w'

set_option maxHeartbeats 8000000 in
set_option maxRecDepth 100000 in
theorem matrix_calls (w : World) (a : Addr) (n c : Nat) (A : Nat → Int × Nat × Int) (hA : ActsAt w a n A) (hn : n ≤ maxLen) : Calls Try.prog 10 #[.slice (some a) n c] w (MatrixE w) := by
  have HA := Lib.hid hA
  have hmx : n ≤ 9223372036854775807 := hn
  clear hA hn
  go_enter Try.func10, Try.ntmps10
  go_wp2_with fail
  refine (new_calls 4 w (by omega)).mono ?_
  rintro e w1 ⟨rfl, hy1, hb1⟩
  obtain ⟨mb, hmb⟩ : ∃ mb, mb = w.heap.size := ⟨_, rfl⟩
  rw [← hmb] at hy1 ⊢
  have hfr : ∀ k, footM mb (.slice none 0 0) k → w.heap.size ≤ k := by
    intro k hk
    rcases hk with rfl | h
    · omega
    · simp [Value.ownBlock] at h
  have HFR := Lib.hid hfr
  clear hmb hfr
  go_wp2_with fail
  go_loopg [5] (50 : Nat) (fun g s5 wr => ∃ (k : Nat) (v : Value) (m : Mx), s5 = .int .i64 (k : Int) ∧ k ≤ n ∧ k ≤ 50 ∧ 50 - k ≤ g ∧ MatAt wr mb v m ∧ Good m ∧ m.n = 4 ∧ m.cells.length ≤ k ∧ (∀ k, footM mb v k → w.heap.size ≤ k) ∧ Below w.heap.size w wr)
  case atStart => exact ⟨0, _, _, rfl, by omega, by omega, by omega, hy1, good_new 4 (by omega), rfl, by simp, HFR.out, hb1⟩
  case round =>
    clear hy1 hb1
    obtain ⟨k, v, m, rfl, hk, hk50, hgk, hy, hgd, h4, hlen, hf, hb⟩ := hrel
    have HF := Lib.hid hf
    have HY := Lib.hid (And.intro hy (And.intro hgd (And.intro h4 hlen)))
    have HBL := Lib.hid hb
    by_cases h1 : k < n
    · by_cases h2 : k < 50
      · have i0 : (0 : Int) ≤ (k : Int) := by omega
        have i1 : (k : Int) < (n : Int) := by omega
        obtain ⟨e0, e1, e2⟩ := HA.out k h1
        have hp1 : a.add (k * 3 + 1) = ⟨(a.add (k * 3)).block, (a.add (k * 3)).off + 1, none⟩ := by rw [← Addr.add_add]; rfl
        have hp2 : a.add (k * 3 + 2) = ⟨(a.add (k * 3)).block, (a.add (k * 3)).off + 2, none⟩ := by rw [← Addr.add_add]; rfl
        rw [hp1] at e1
        rw [hp2] at e2
        replace e0 := (hb.cell (World.block_lt_of_cell? w _ e0)).trans e0
        replace e1 := (hb.cell (World.block_lt_of_cell? w _ e1)).trans e1
        replace e2 := (hb.cell (World.block_lt_of_cell? w _ e2)).trans e2
        generalize (A k).1 = x0 at *
        generalize (A k).2.1 = x1 at *
        generalize (A k).2.2 = x2 at *
        obtain ⟨X, hX⟩ : ∃ X, X = wr.heap.size := ⟨_, rfl⟩
        obtain ⟨WX, hWX⟩ : ∃ WX, WX = wr.alloc (.cells #[.int .i64 x0, .int .u32 (x1 : Int), .int .i64 x2] 53) := ⟨_, rfl⟩
        have hbX : Below wr.heap.size wr WX := by rw [hWX]; exact below_alloc' _ _
        have hx : WX.heap[X]? = some (.cells #[.int .i64 x0, .int .u32 (x1 : Int), .int .i64 x2] 53 (0, 0)) := by rw [hWX, hX]; exact box_heap _ _ _
        have q0 : WX.cell? ⟨X, 0, none⟩ = some (.int .i64 x0) := by simp [World.cell?, hx]
        have q1 : WX.cell? ⟨X, 1, none⟩ = some (.int .u32 (x1 : Int)) := by simp [World.cell?, hx]
        have q2 : WX.cell? ⟨X, 2, none⟩ = some (.int .i64 x2) := by simp [World.cell?, hx]
        have hyX := hy.below hbX
        have hpl := Lib.hid (place_next hyX hgd h4 hlen (by omega) x1 x2)
        have hre := Lib.hid (remove_next hyX hgd h4 hlen (by omega) x1)
        have htu := Lib.hid (turn_next hyX hgd h4 hlen (by omega))
        have hun := Lib.hid (unify_next hyX hgd h4 hlen (by omega))
        have HX := Lib.hid hX
        have HWX := Lib.hid hWX
        have hdone : ∀ w2, NextM 4 mb v (k + 1) WX w2 → ∃ (v : Value) (m : Mx), MatAt w2 mb v m ∧ Good m ∧ m.n = 4 ∧ m.cells.length ≤ k + 1 ∧ (∀ k, footM mb v k → w.heap.size ≤ k) ∧ Below w.heap.size w w2 := by
          rintro w2 ⟨v2, m2, g1, g2, g3, g4, g5⟩
          have hbw := hb.trans (hbX.mono hb.size)
          refine ⟨v2, m2, g1, g3, g4, g5, fun i hi => ?_, ?_⟩
          · rcases g2.fresh i hi with h | h
            · exact HF.out i h
            · exact Nat.le_trans hbw.size h
          · exact ⟨g2.keeps.os.trans hbw.os, g2.keeps.tape.trans hbw.tape, g2.keeps.output.trans hbw.output, Nat.le_trans hbw.size g2.keeps.size, fun i hi => (g2.keeps.block i (Nat.lt_of_lt_of_le hi hbw.size) (fun hh => by have := HF.out i hh; omega)).trans (hbw.block i hi)⟩
        have HD := Lib.hid hdone
        clear hp1 hp2 hX hWX hbX hx hyX hdone hy hgd h4 hlen hf hb h1
        go_upto_region 8 with (fail)
        rw [← HWX.out, ← HX.out]
        clear e0 e1 e2
        by_cases k0 : x0 = 0
        · subst k0
          go_wp2_with fail
          refine hpl.out.mono ?_
          rintro e w2 ⟨⟨rv, rfl⟩, hn2⟩
          obtain ⟨v2, m2, hh⟩ := HD.out w2 hn2
          have HH := Lib.hid hh
          clear hh hn2
          go_wp2_with fail
          rw [show (k : Int) + 1 = ((k + 1 : Nat) : Int) by omega]
          go_roundg (gk - 1)
          case measure => omega
          case rel => exact ⟨k + 1, v2, m2, rfl, by omega, by omega, by omega, HH.out⟩
        · have b0 : (x0 == 0) = false := beq_eq_false_iff_ne.2 k0
          by_cases k1 : x0 = 1
          · subst k1
            go_wp2_with fail
            refine hpl.out.mono ?_
            rintro e w2 ⟨⟨rv, rfl⟩, hn2⟩
            obtain ⟨v2, m2, hh⟩ := HD.out w2 hn2
            have HH := Lib.hid hh
            clear hh hn2
            go_wp2_with fail
            rw [show (k : Int) + 1 = ((k + 1 : Nat) : Int) by omega]
            go_roundg (gk - 1)
            case measure => omega
            case rel => exact ⟨k + 1, v2, m2, rfl, by omega, by omega, by omega, HH.out⟩
          · have b1 : (x0 == 1) = false := beq_eq_false_iff_ne.2 k1
            by_cases k2 : x0 = 2
            · subst k2
              go_wp2_with fail
              refine hpl.out.mono ?_
              rintro e w2 ⟨⟨rv, rfl⟩, hn2⟩
              obtain ⟨v2, m2, hh⟩ := HD.out w2 hn2
              have HH := Lib.hid hh
              clear hh hn2
              go_wp2_with fail
              rw [show (k : Int) + 1 = ((k + 1 : Nat) : Int) by omega]
              go_roundg (gk - 1)
              case measure => omega
              case rel => exact ⟨k + 1, v2, m2, rfl, by omega, by omega, by omega, HH.out⟩
            · have b2 : (x0 == 2) = false := beq_eq_false_iff_ne.2 k2
              by_cases k3 : x0 = 3
              · subst k3
                go_wp2_with fail
                refine hre.out.mono ?_
                rintro e w2 ⟨⟨rv, rfl⟩, hn2⟩
                obtain ⟨v2, m2, hh⟩ := HD.out w2 hn2
                have HH := Lib.hid hh
                clear hh hn2
                go_wp2_with fail
                rw [show (k : Int) + 1 = ((k + 1 : Nat) : Int) by omega]
                go_roundg (gk - 1)
                case measure => omega
                case rel => exact ⟨k + 1, v2, m2, rfl, by omega, by omega, by omega, HH.out⟩
              · have b3 : (x0 == 3) = false := beq_eq_false_iff_ne.2 k3
                by_cases k4 : x0 = 4
                · subst k4
                  go_wp2_with fail
                  refine hre.out.mono ?_
                  rintro e w2 ⟨⟨rv, rfl⟩, hn2⟩
                  obtain ⟨v2, m2, hh⟩ := HD.out w2 hn2
                  have HH := Lib.hid hh
                  clear hh hn2
                  go_wp2_with fail
                  rw [show (k : Int) + 1 = ((k + 1 : Nat) : Int) by omega]
                  go_roundg (gk - 1)
                  case measure => omega
                  case rel => exact ⟨k + 1, v2, m2, rfl, by omega, by omega, by omega, HH.out⟩
                · have b4 : (x0 == 4) = false := beq_eq_false_iff_ne.2 k4
                  by_cases k5 : x0 = 5
                  · subst k5
                    go_wp2_with fail
                    refine htu.out.mono ?_
                    rintro e w2 ⟨rfl, hn2⟩
                    obtain ⟨v2, m2, hh⟩ := HD.out w2 hn2
                    have HH := Lib.hid hh
                    clear hh hn2
                    go_wp2_with fail
                    rw [show (k : Int) + 1 = ((k + 1 : Nat) : Int) by omega]
                    go_roundg (gk - 1)
                    case measure => omega
                    case rel => exact ⟨k + 1, v2, m2, rfl, by omega, by omega, by omega, HH.out⟩
                  · have b5 : (x0 == 5) = false := beq_eq_false_iff_ne.2 k5
                    clear k0 k1 k2 k3 k4 k5
                    go_wp2_with fail
                    refine hun.out.mono ?_
                    rintro e w2 ⟨⟨rv, rfl⟩, hn2⟩
                    obtain ⟨v2, m2, hh⟩ := HD.out w2 hn2
                    have HH := Lib.hid hh
                    clear hh hn2
                    go_wp2_with fail
                    rw [show (k : Int) + 1 = ((k + 1 : Nat) : Int) by omega]
                    go_roundg (gk - 1)
                    case measure => omega
                    case rel => exact ⟨k + 1, v2, m2, rfl, by omega, by omega, by omega, HH.out⟩
      · obtain rfl : k = 50 := by omega
        have g2 : decide ((50 : Int) < (n : Int)) = true := by rw [decide_eq_true_eq]; omega
        clear hy hgd h4 hlen hf hb
        go_wp2_with fail
        go_ret
        exact ⟨mb, v, m, rfl, HY.out.1, HY.out.2.1, HY.out.2.2.1, HY.out.2.2.2, HF.out, HBL.out⟩
    · obtain rfl : k = n := by omega
      have g1 : decide ((k : Int) < (k : Int)) = false := by rw [decide_eq_false_iff_not]; omega
      clear hy hgd h4 hlen hf hb
      go_wp2_with fail
      go_ret
      exact ⟨mb, v, m, rfl, HY.out.1, HY.out.2.1, HY.out.2.2.1, by have := HY.out.2.2.2; omega, HF.out, HBL.out⟩

theorem matrix_nil (w : World) : Calls Try.prog 10 #[.slice none 0 0] w (MatrixE w) := by
  go_enter Try.func10, Try.ntmps10
  go_wp2_with fail
  refine (new_calls 4 w (by omega)).mono ?_
  rintro e w1 ⟨rfl, hy1, hb1⟩
  obtain ⟨mb, hmb⟩ : ∃ mb, mb = w.heap.size := ⟨_, rfl⟩
  rw [← hmb] at hy1 ⊢
  have hfr : ∀ k, footM mb (.slice none 0 0) k → w.heap.size ≤ k := by
    intro k hk
    rcases hk with rfl | h
    · omega
    · simp [Value.ownBlock] at h
  have HF := Lib.hid (And.intro hfr (And.intro hy1 hb1))
  clear hfr hy1 hb1 hmb
  go_wp2_with fail
  refine wp_loop_rounds 1 ?_
  rw [rounds_succ]
  go_wp2_with fail
  go_ret
  exact ⟨mb, _, _, rfl, HF.out.2.1, good_new 4 (by omega), rfl, by simp, HF.out.1, HF.out.2.2⟩
theorem matrix_any {w : World} {v : Value} {n : Nat} {A : Nat → Int × Nat × Int} (h : ActsV w v n A) : Calls Try.prog 10 #[v] w (MatrixE w) := by
  obtain ⟨hn, ⟨rfl, rfl⟩ | ⟨a, c, rfl, hA⟩⟩ := h
  · exact matrix_nil w
  · exact matrix_calls w a n c A hA hn

/-- A matrix, made since. -/
structure MatS (w0 w : World) (mb : Nat) (v : Value) (m : Mx) : Prop where
  at_ : MatAt w mb v m
  foot : ∀ k, footM mb v k → w0.heap.size ≤ k
  below : Below w0.heap.size w0 w
theorem MatS.step {w0 w w' : World} {mb : Nat} {v v' : Value} {m m' : Mx} (h : MatS w0 w mb v m) (ha : MatAt w' mb v' m') (g : MStep w mb v w' v') : MatS w0 w' mb v' m' := by
  have hb := h.below
  refine ⟨ha, fun i hi => ?_, ?_⟩
  · rcases g.fresh i hi with h1 | h1
    · exact h.foot i h1
    · exact Nat.le_trans hb.size h1
  · exact ⟨g.keeps.os.trans hb.os, g.keeps.tape.trans hb.tape, g.keeps.output.trans hb.output, Nat.le_trans hb.size g.keeps.size, fun i hi => (g.keeps.block i (Nat.lt_of_lt_of_le hi hb.size) (fun hh => by have := h.foot i hh; omega)).trans (hb.block i hi)⟩
theorem MatS.on {w0 w w' : World} {mb : Nat} {v : Value} {m : Mx} (h : MatS w0 w mb v m) (hb : Below w.heap.size w w') : MatS w0 w' mb v m := ⟨h.at_.below hb, h.foot, h.below.trans (hb.mono h.below.size)⟩
end Go.Proofs.Ytnokmbjgfglaoaa
