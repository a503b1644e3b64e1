/- Contracts: of. -/
import Derived.Test.YtnokmbjgfglaoaaCols
import Derived.Deep.QuietTactic
import Derived.BigQuiet
import Derived.Deep.LoopGhost
import Derived.Laws.ResultCell
import Derived.Laws.Rows
import Derived.Laws.Tables
set_option linter.unusedSimpArgs false
set_option linter.unusedVariables false
namespace Go.Proofs.Ytnokmbjgfglaoaa
open Go Go.RowKit

theorem shl_u64 (o P : Nat) (ho : o < 64) (hP : P = 2 ^ o) (yk : IntKind) : Op.shift .shl .u64 1 yk (o : Int) = pure (.int .u64 (P : Int)) := by
  rw [shift_shl_u64 yk 1 (o : Int) (by omega) (by omega)]
  have e : (1 : Int) * 2 ^ (o : Int).toNat = ((2 ^ o : Nat) : Int) := by rw [Int.toNat_natCast, Int.one_mul]; push_cast; rfl
  have hb : 2 ^ o < 18446744073709551616 := Nat.pow_lt_pow_right (by omega) (show o < 64 by omega)
  rw [e, hP]
  generalize 2 ^ o = Q at *
  have hq : IntKind.u64.wrap (Q : Int) = (Q : Int) := by rw [IntKind.wrap_u64]; omega
  rw [hq]
theorem nat_u64 (a : Nat) (ha : a < 18446744073709551616) : (BitVec.ofInt 64 (a : Int)).toNat = a := by
  rw [BitVec.toNat_ofInt]; omega
theorem or_u64 (a b : Nat) (ha : a < 18446744073709551616) (hb : b < 18446744073709551616) : bits .or .u64 (a : Int) (b : Int) = ((a ||| b : Nat) : Int) := by
  have hx : a ||| b < 2 ^ 64 := Nat.or_lt_two_pow (by omega) (by omega)
  show IntKind.u64.wrap ((BitVec.ofInt 64 (a : Int) ||| BitVec.ofInt 64 (b : Int)).toNat : Int) = _
  rw [BitVec.toNat_or, nat_u64 a ha, nat_u64 b hb, IntKind.wrap_u64]
  omega
theorem and_u64 (a b : Nat) (ha : a < 18446744073709551616) (hb : b < 18446744073709551616) : bits .and .u64 (a : Int) (b : Int) = ((a &&& b : Nat) : Int) := by
  have hx : a &&& b < 2 ^ 64 := Nat.and_lt_two_pow _ (by omega)
  show IntKind.u64.wrap ((BitVec.ofInt 64 (a : Int) &&& BitVec.ofInt 64 (b : Int)).toNat : Int) = _
  rw [BitVec.toNat_and, nat_u64 a ha, nat_u64 b hb, IntKind.wrap_u64]
  omega
theorem colsA_one (f : Nat → Bool) : (colsA f).all (·.oneCell') = true := by
  rw [Array.all_eq_true_iff_forall_mem]
  intro v hv
  simp [colsA] at hv
  obtain ⟨i, _, rfl⟩ := hv
  rfl

def zero16 : Array Value := #[.int .u64 0, .int .u64 0, .int .u64 0, .int .u64 0, .int .u64 0, .int .u64 0, .int .u64 0, .int .u64 0, .int .u64 0, .int .u64 0, .int .u64 0, .int .u64 0, .int .u64 0, .int .u64 0, .int .u64 0, .int .u64 0]
theorem zero16_eq : zero16 = colsA (fun _ => false) := by
  unfold colsA
  simp [word_zero, List.range_succ, zero16]

set_option maxHeartbeats 4000000 in
set_option maxRecDepth 100000 in
theorem of_calls (s o : Nat) (ho : o ≤ 10) (hs : s + 2 ^ o ≤ 1024) (w : World) :
    Calls Try.prog 32 #[.agg #[.int .i64 (s : Int), .int .i64 (o : Int)]] w fun e w' => e = .returned (.agg (colsA (inS s o))) ∧ Below w.heap.size w w' := by
  obtain ⟨P, hP⟩ : ∃ P, P = 2 ^ o := ⟨_, rfl⟩
  have hsh := shl_one o P ho hP
  have hin : inS s o = fun v => decide (s ≤ v ∧ v < s + P) := by rw [hP]; rfl
  rw [hin]
  rw [← hP] at hs
  obtain ⟨ob, hob⟩ : ∃ ob : Int, (o : Int) = ob := ⟨_, rfl⟩
  have ob0 : decide ((o : Int) < 0) = false := by rw [decide_eq_false_iff_not]; omega
  rw [hob] at hsh ob0 ⊢
  clear hP ho hob hin
  go_enter Try.func32, Try.ntmps32
  go_wp2_with fail
  obtain ⟨B, hB⟩ : ∃ B, B = w.heap.size := ⟨_, rfl⟩
  rw [← hB]
  go_loopg [4] 1100 (fun g s4 wr => ∃ k : Nat, s4 = .int .i64 (k : Int) ∧ s ≤ k ∧ k ≤ s + P ∧ s + P - k ≤ g ∧ Below B w wr ∧ wr.heap[B]? = some (.cells #[.int .i64 (s : Int), .int .i64 ob] 32 (0, 0)) ∧ wr.heap[B + 1]? = some (.cells zero16 65 (0, 0)) ∧ wr.heap[B + 1 + 1]? = some (.cells (colsA fun v => decide (s ≤ v ∧ v < k)) 65 (0, 0)))
  case atStart =>
    refine ⟨s, rfl, by omega, by omega, by omega, ?_, ?_, ?_, ?_⟩
    · rw [hB]; exact (((Below.refl _ _).alloc (Nat.le_refl _) _).alloc (by simp) _).alloc (by simp; omega) _
    · rw [hB, Below.heap_alloc _ _ _ (by simp; omega), Below.heap_alloc _ _ _ (by simp)]; exact box_heap _ _ _
    · rw [hB, Below.heap_alloc _ _ _ (by simp)]
      have := box_heap (w.alloc (.cells #[.int .i64 (s : Int), .int .i64 ob] 32)) zero16 65
      rw [show (w.alloc (.cells #[.int .i64 (s : Int), .int .i64 ob] 32)).heap.size = w.heap.size + 1 by simp] at this
      exact this
    · rw [hB]
      have := box_heap ((w.alloc (.cells #[.int .i64 (s : Int), .int .i64 ob] 32)).alloc (.cells zero16 65)) zero16 65
      rw [show ((w.alloc (.cells #[.int .i64 (s : Int), .int .i64 ob] 32)).alloc (.cells zero16 65)).heap.size = w.heap.size + 1 + 1 by simp] at this
      rw [show (fun v => decide (s ≤ v ∧ v < s)) = (fun _ => false) by funext v; rw [decide_eq_false_iff_not]; omega, ← zero16_eq]
      exact this
  case round =>
    obtain ⟨k, rfl, hk1, hk2, hkg, hbl, hb, hr, hc⟩ := hrel
    have HB := Lib.hid hB
    clear hB
    have d0 : wr.cell? ⟨B, 0, none⟩ = some (.int .i64 (s : Int)) := by simp [World.cell?, hb]
    have d1 : wr.cell? ⟨B, 1, none⟩ = some (.int .i64 ob) := by simp [World.cell?, hb]
    have HR := Lib.hid hr
    have HC := Lib.hid hc
    have HBB := Lib.hid hb
    have HBL := Lib.hid hbl
    clear hr hc hb hbl
    by_cases hlt : k < s + P
    · have g1 : decide ((k : Int) < (s : Int) + (P : Int)) = true := by rw [decide_eq_true_eq]; omega
      go_wp2_with fail
      go_quiet (fail)
      obtain ⟨Ki, hKi⟩ : ∃ Ki : Nat, Ki = k / 64 := ⟨_, rfl⟩
      obtain ⟨j, hj⟩ : ∃ j : Nat, j = k % 64 := ⟨_, rfl⟩
      have hK16 : Ki < 16 := by omega
      have hq : (k : Int) / 64 = (Ki : Int) := by omega
      have hrem : Hid ((k : Int).tmod 64 = (j : Int)) := Lib.hid (by rw [Int.tmod_eq_emod_of_nonneg (by omega)]; omega)
      have hwk : IntKind.i64.wrap (Ki : Int) = (Ki : Int) := by rw [IntKind.wrap_i64]; omega
      obtain ⟨V, hV⟩ : ∃ V, V = word (fun v => decide (s ≤ v ∧ v < k)) Ki := ⟨_, rfl⟩
      have hVl : V < 18446744073709551616 := by rw [hV]; exact word_lt _ _
      have hc5 : (wr.drewN nq).cell? ⟨B + 1 + 1, Ki, none⟩ = some (.int .u64 (V : Int)) := by
        show wr.cell? _ = _
        simp [World.cell?, HC.out, colsA_get _ _ hK16, hV]
      have hf5 : (wr.drewN nq).frozen? ⟨B + 1 + 1, Ki, none⟩ = false := by
        show wr.frozen? _ = _
        simp [World.frozen?, HC.out]
      obtain ⟨Q, hQ⟩ : ∃ Q, Q = 2 ^ j := ⟨_, rfl⟩
      have hsh2 := shl_u64 j Q (by omega) hQ
      have rb0 : decide ((j : Int) < 0) = false := by rw [decide_eq_false_iff_not]; omega
      have hQl : Q < 18446744073709551616 := by rw [hQ]; exact Nat.pow_lt_pow_right (by omega) (show j < 64 by omega)
      obtain ⟨X, hX⟩ : ∃ X, X = V ||| Q := ⟨_, rfl⟩
      have hor : bits .or .u64 (V : Int) (Q : Int) = (X : Int) := by rw [hX]; exact or_u64 V Q hVl hQl
      have hXw : X = word (fun v => decide (s ≤ v ∧ v < k + 1)) (k / 64) := by
        rw [hX, hV, hQ, hj, hKi, word_set]
        refine word_congr fun v _ => ?_
        rw [Bool.eq_iff_iff]; simp; omega
      have hXo : ∀ i, i ≠ k / 64 → word (fun v => decide (s ≤ v ∧ v < k + 1)) i = word (fun v => decide (s ≤ v ∧ v < k)) i := fun i hi => by
        rw [← word_other (fun v => decide (s ≤ v ∧ v < k)) k i hi]
        refine word_congr fun v _ => ?_
        rw [Bool.eq_iff_iff]; simp; omega
      have HN : Hid ((wr.drewN nq).heap[B + 1]? = some (.cells zero16 65 (0, 0)) ∧ (wr.drewN nq).heap[B]? = some (.cells #[.int .i64 (s : Int), .int .i64 ob] 32 (0, 0)) ∧ Below B w (wr.drewN nq) ∧ (wr.drewN nq).heap[B + 1 + 1]? = some (.cells (colsA fun v => decide (s ≤ v ∧ v < k)) 65 (0, 0))) := Lib.hid ⟨HR.out, HBB.out, HBL.out.trans ((below_drewN' wr nq).mono (by have := HBL.out.size; have := HB.out; omega)), HC.out⟩
      have HSET : Hid ((colsA fun v => decide (s ≤ v ∧ v < k)).setIfInBounds Ki (.int .u64 (X : Int)) = colsA fun v => decide (s ≤ v ∧ v < k + 1)) := Lib.hid (by rw [hKi]; exact colsA_set _ _ _ _ hXw hXo)
      generalize wr.drewN nq = W at *
      obtain ⟨rb, hrb⟩ : ∃ rb : Int, (j : Int) = rb := ⟨_, rfl⟩
      rw [hrb] at hsh2 rb0 hrem
      clear hKi hj hV hVl hQ hQl hX hXw hXo hrb HR HC HBB HBL d0 d1
      go_wp2_with fail
      refine Thr.drawn [(0, false), (1, false), (2, false), (3, false), (4, false), (5, false), (6, false), (7, false), (8, false), (9, true)] 9
        (fun w' => w'.cell? ⟨B + 1 + 1, Ki, none⟩ = some (.int .u64 (V : Int))) (by kernel_rfl) (by kernel_rfl) (fun c a w d v h => by cases d <;> exact h) hc5 ?_
      simp only [Thr.pick, Array.reduceGetElem?]
      iterate 5
        apply Thr.read rfl
        · intro w' hS
          go_simp
          (repeat rw [if_pos (by omega)])
          try with_reducible rfl
        simp only [Act.put, List.setIfInBounds_toArray, List.set_cons_zero, List.set_cons_succ]
      refine Thr.read (v := .int .i64 rb) rfl ?_ ?_
      · intro w' hS
        go_simp
        exact hrem.out
      simp only [Act.put, List.setIfInBounds_toArray, List.set_cons_zero, List.set_cons_succ]
      iterate 3
        apply Thr.read rfl
        · intro w' hS
          go_simp
          (repeat rw [if_pos (by omega)])
          try with_reducible rfl
        simp only [Act.put, List.setIfInBounds_toArray, List.set_cons_zero, List.set_cons_succ]
      refine Thr.last rfl ?_
      intro K hK
      go_simp
      refine hK _ _ ?_
      clear hK
      go_wp2_with fail
      rw [show (k : Int) + 1 = ((k + 1 : Nat) : Int) by omega]
      go_roundg (gk - 1)
      case measure => omega
      case rel =>
        obtain ⟨n1, n2, n3, n4⟩ := HN.out
        refine ⟨k + 1, rfl, by omega, by omega, by omega, ?_, ?_, ?_, ?_⟩
        · exact (n3.setCell (p := ⟨B + 1 + 1, Ki, none⟩) (show B ≤ B + 1 + 1 by omega) _).trans ⟨rfl, rfl, rfl, Nat.le_refl _, fun _ _ => rfl⟩
        · exact (Below.heap_setCell _ _ _ _ (show B ≠ B + 1 + 1 by omega)).trans n2
        · exact (Below.heap_setCell _ _ _ _ (show B + 1 ≠ B + 1 + 1 by omega)).trans n1
        · show (W.setCell ⟨B + 1 + 1, Ki, none⟩ (.int .u64 (X : Int))).heap[B + 1 + 1]? = _
          rw [← HSET.out]
          simp [World.setCell, Array.getElem?_modify, n4]
    · have g1 : decide ((k : Int) < (s : Int) + (P : Int)) = false := by rw [decide_eq_false_iff_not]; omega
      go_wp2_with fail
      go_quiet (fail)
      have hr : (wr.drewN nq).heap[B + 1]? = some (.cells zero16 65 (0, 0)) := HR.out
      have hbl : Below B w (wr.drewN nq) := HBL.out.trans ((below_drewN' wr nq).mono (by have := HBL.out.size; have := HB.out; omega))
      have hc : (wr.drewN nq).heap[B + 1 + 1]? = some (.cells (colsA fun v => decide (s ≤ v ∧ v < k)) 65 (0, 0)) := HC.out
      generalize wr.drewN nq = W at *
      obtain ⟨F, hF⟩ : ∃ F, F = (fun v => decide (s ≤ v ∧ v < k)) := ⟨_, rfl⟩
      rw [← hF] at hc
      have HF := Lib.hid hF
      clear hF
      have hz := colsA_size F
      have ho := colsA_one F
      obtain ⟨CF, hCF⟩ : ∃ CF, CF = colsA F := ⟨_, rfl⟩
      rw [← hCF] at hc hz ho
      have HCF := Lib.hid hCF
      have hi : (Try.prog.info? 65).map (·.size) = some CF.size := by rw [hz]; kernel_rfl
      have hz2 : zero16.size = CF.size := by rw [hz]; rfl
      have HZ := Lib.hid (And.intro hz (And.intro ho (And.intro hi hz2)))
      clear hCF hz ho hi hz2
      go_wp2_with (first | (with_reducible refine wpList_load_row rfl 65 _ rfl _ rfl _ _ _ _ hc Try.underlying65 rfl HZ.out.2.2.1 ?_) | (with_reducible refine wpList_store_row rfl 65 _ _ rfl _ _ rfl rfl _ _ hr HZ.out.2.2.1 HZ.out.2.2.2 HZ.out.2.1 ?_))
      refine bodyPost_ret (v := .agg CF) ?_ rfl ?_
      · exact results_cell_row rfl _ _ (B + 1) 65 _ (0, 0) _ (by rfl) (setRow_heap _ _ _ _ _ _ hr) Try.underlying65 rfl HZ.out.2.2.1
      · obtain rfl : k = s + P := by omega
        refine ⟨by rw [HCF.out, HF.out], ?_⟩
        rw [← HB.out]
        exact below_setRow hbl (by omega) _
end Go.Proofs.Ytnokmbjgfglaoaa
