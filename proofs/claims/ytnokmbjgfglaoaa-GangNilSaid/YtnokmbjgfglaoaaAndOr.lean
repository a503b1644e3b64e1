/- Contracts: and, or, meets. -/
import Derived.Test.YtnokmbjgfglaoaaOf
import Derived.Deep.DeepCutAuto
set_option linter.unusedSimpArgs false
set_option linter.unusedVariables false
namespace Go.Proofs.Ytnokmbjgfglaoaa
open Go Go.RowKit

theorem three_blocks (w : World) (a b c : Array Value) (t1 t2 t3 : TypeId) (B : Nat) (hB : B = w.heap.size) :
    Below B w (((w.alloc (.cells a t1)).alloc (.cells b t2)).alloc (.cells c t3)) ∧ (((w.alloc (.cells a t1)).alloc (.cells b t2)).alloc (.cells c t3)).heap[B]? = some (.cells a t1 (0, 0)) ∧
    (((w.alloc (.cells a t1)).alloc (.cells b t2)).alloc (.cells c t3)).heap[B + 1]? = some (.cells b t2 (0, 0)) ∧ (((w.alloc (.cells a t1)).alloc (.cells b t2)).alloc (.cells c t3)).heap[B + 1 + 1]? = some (.cells c t3 (0, 0)) := by
  subst hB
  refine ⟨(((Below.refl _ _).alloc (Nat.le_refl _) _).alloc (by simp) _).alloc (by simp; omega) _, ?_, ?_, ?_⟩
  · rw [Below.heap_alloc _ _ _ (by simp; omega), Below.heap_alloc _ _ _ (by simp)]; exact box_heap _ _ _
  · rw [Below.heap_alloc _ _ _ (by simp)]
    have := box_heap (w.alloc (.cells a t1)) b t2
    rwa [show (w.alloc (.cells a t1)).heap.size = w.heap.size + 1 by simp] at this
  · have := box_heap ((w.alloc (.cells a t1)).alloc (.cells b t2)) c t3
    rwa [show ((w.alloc (.cells a t1)).alloc (.cells b t2)).heap.size = w.heap.size + 1 + 1 by simp] at this

set_option maxHeartbeats 4000000 in
set_option maxRecDepth 100000 in
theorem and_calls (f g : Nat → Bool) (w : World) :
    Calls Try.prog 46 #[.agg (colsA f), .agg (colsA g)] w fun e w' => e = .returned (.agg (colsA (fun v => f v && g v))) ∧ Below w.heap.size w w' := by
  obtain ⟨CF, hCF⟩ : ∃ CF, CF = colsA f := ⟨_, rfl⟩
  obtain ⟨CG, hCG⟩ : ∃ CG, CG = colsA g := ⟨_, rfl⟩
  rw [← hCF, ← hCG]
  have hz1 : CF.size = 16 := by rw [hCF]; exact colsA_size f
  have hz2 : CG.size = 16 := by rw [hCG]; exact colsA_size g
  have ho1 : CF.all (·.oneCell') = true := by rw [hCF]; exact colsA_one f
  have ho2 : CG.all (·.oneCell') = true := by rw [hCG]; exact colsA_one g
  have HF := Lib.hid hCF
  have HG := Lib.hid hCG
  clear hCF hCG
  obtain ⟨B, hB⟩ : ∃ B, B = w.heap.size := ⟨_, rfl⟩
  have HB := Lib.hid hB
  clear hB
  go_enter Try.func46, Try.ntmps46
  go_wp2_with fail
  rw [← HB.out]
  clear hz1 hz2 ho1 ho2
  go_loopg [6] 17 (fun q s6 wr => ∃ k : Nat, s6 = .int .i64 (k : Int) ∧ k ≤ 16 ∧ 16 - k ≤ q ∧ Below B w wr ∧ wr.heap[B]? = some (.cells (colsA fun v => if v / 64 < k then f v && g v else f v) 65 (0, 0)) ∧ wr.heap[B + 1]? = some (.cells CG 65 (0, 0)) ∧ wr.heap[B + 1 + 1]? = some (.cells zero16 65 (0, 0)))
  case atStart =>
    obtain ⟨h1, h2, h3, h4⟩ := three_blocks w CF CG zero16 65 65 65 B HB.out
    refine ⟨0, rfl, by omega, by omega, h1, ?_, h3, h4⟩
    rw [show (colsA fun v => if v / 64 < 0 then f v && g v else f v) = CF by rw [HF.out]; exact colsA_congr fun v _ => by simp]
    exact h2
  case round =>
    obtain ⟨k, rfl, hk, hkg, hbl, hb, hg, hr⟩ := hrel
    have HN : Hid (Below B w wr ∧ wr.heap[B]? = some (.cells (colsA fun v => if v / 64 < k then f v && g v else f v) 65 (0, 0)) ∧ wr.heap[B + 1]? = some (.cells CG 65 (0, 0)) ∧ wr.heap[B + 1 + 1]? = some (.cells zero16 65 (0, 0))) := Lib.hid ⟨hbl, hb, hg, hr⟩
    by_cases hlt : k < 16
    · have k0 : (0 : Int) ≤ (k : Int) := by omega
      have k1 : (k : Int) < 16 := by omega
      obtain ⟨V, hV⟩ : ∃ V, V = word f k := ⟨_, rfl⟩
      obtain ⟨U, hU⟩ : ∃ U, U = word g k := ⟨_, rfl⟩
      obtain ⟨X, hX⟩ : ∃ X, X = word (fun v => f v && g v) k := ⟨_, rfl⟩
      have hbt : bits .and .u64 (V : Int) (U : Int) = (X : Int) := by
        rw [and_u64 V U (by rw [hV]; exact word_lt _ _) (by rw [hU]; exact word_lt _ _), hX, hV, hU, word_and]
      have c1 : wr.cell? ⟨B, k, none⟩ = some (.int .u64 (V : Int)) := by
        simp only [World.cell?, hb, colsA_get _ k hlt]
        rw [hV, word_congr (f := fun v => if v / 64 < k then f v && g v else f v) (g := f) (i := k) fun v hv => by simp [hv]]
        rfl
      have c2 : wr.cell? ⟨B + 1, k, none⟩ = some (.int .u64 (U : Int)) := by
        simp only [World.cell?, hg]
        rw [HG.out, colsA_get _ k hlt, hU]
        rfl
      have hf1 : wr.frozen? ⟨B, k, none⟩ = false := by simp [World.frozen?, hb]
      have HSET : Hid ((colsA fun v => if v / 64 < k then f v && g v else f v).setIfInBounds k (.int .u64 (X : Int)) = colsA fun v => if v / 64 < k + 1 then f v && g v else f v) := Lib.hid (colsA_set _ _ _ _ (by
          rw [hX]; exact word_congr fun v hv => by simp [hv]) (fun j hj => word_congr fun v hv => by
          have : v / 64 < k + 1 ↔ v / 64 < k := by omega
          simp only [this]))
      clear hbl hb hg hr hV hU hX hlt
      go_wp2_with fail
      refine Thr.drawn [(0, false), (1, false), (2, false), (3, false), (4, false), (5, false), (6, false), (7, false), (8, true)] 8
        (fun w' => w'.cell? ⟨B, k, none⟩ = some (.int .u64 (V : Int)) ∧ w'.cell? ⟨B + 1, k, none⟩ = some (.int .u64 (U : Int))) (by kernel_rfl) (by kernel_rfl) (fun c a w d v h => by cases d <;> exact h) ⟨c1, c2⟩ ?_
      simp only [Thr.pick, Array.reduceGetElem?]
      iterate 8
        apply Thr.read rfl
        · intro w' hS
          go_simp
          (repeat rw [if_pos (by omega)])
          try with_reducible rfl
        simp only [Act.put, List.setIfInBounds_toArray, List.set_cons_zero, List.set_cons_succ]
      refine Thr.last rfl ?_
      intro K hK
      go_simp
      refine hK _ _ ?_
      clear hK
      go_wp2_with fail
      rw [show (k : Int) + 1 = ((k + 1 : Nat) : Int) by omega]
      go_roundg (gk - 1)
      case measure => omega
      case rel =>
        obtain ⟨n1, n2, n3, n4⟩ := HN.out
        refine ⟨k + 1, rfl, by omega, by omega, ?_, ?_, ?_, ?_⟩
        · exact (n1.setCell (p := ⟨B, k, none⟩) (Nat.le_refl B) _).trans ⟨rfl, rfl, rfl, Nat.le_refl _, fun _ _ => rfl⟩
        · show (wr.setCell ⟨B, k, none⟩ (.int .u64 (X : Int))).heap[B]? = _
          rw [← HSET.out]
          simp [World.setCell, Array.getElem?_modify, n2]
        · exact (Below.heap_setCell _ _ _ _ (show B + 1 ≠ B by omega)).trans n3
        · exact (Below.heap_setCell _ _ _ _ (show B + 1 + 1 ≠ B by omega)).trans n4
    · have k1 : ¬ ((k : Int) < 16) := by omega
      obtain rfl : k = 16 := by omega
      clear hlt hb
      have hb := HN.out.2.1
      rw [show (colsA fun v => if v / 64 < 16 then f v && g v else f v) = colsA fun v => f v && g v from colsA_congr fun v hv => by rw [if_pos (by omega)]] at hb
      obtain ⟨CX, hCX⟩ : ∃ CX, CX = colsA fun v => f v && g v := ⟨_, rfl⟩
      rw [← hCX] at hb
      have HCX := Lib.hid hCX
      have hz : CX.size = 16 := by rw [hCX]; exact colsA_size _
      have ho : CX.all (·.oneCell') = true := by rw [hCX]; exact colsA_one _
      have hi : (Try.prog.info? 65).map (·.size) = some CX.size := by rw [hz]; kernel_rfl
      have HZ := Lib.hid (And.intro hi (And.intro (show zero16.size = CX.size by rw [hz]; rfl) ho))
      have HBL := Lib.hid hbl
      clear hCX hz ho hi hbl
      go_wp2_with (first | (with_reducible refine wpList_load_row rfl 65 _ rfl _ rfl _ _ _ _ hb Try.underlying65 rfl HZ.out.1 ?_) | (with_reducible refine wpList_store_row rfl 65 _ _ rfl _ _ rfl rfl _ _ hr HZ.out.1 HZ.out.2.1 HZ.out.2.2 ?_))
      refine bodyPost_ret (v := .agg CX) ?_ rfl ?_
      · exact results_cell_row rfl _ _ (B + 1 + 1) 65 _ (0, 0) _ (by rfl) (setRow_heap _ _ _ _ _ _ hr) Try.underlying65 rfl HZ.out.1
      · refine ⟨by rw [HCX.out], ?_⟩
        rw [← HB.out]
        exact below_setRow HBL.out (by omega) _

set_option maxHeartbeats 4000000 in
set_option maxRecDepth 100000 in
theorem or_calls (f g : Nat → Bool) (w : World) :
    Calls Try.prog 34 #[.agg (colsA f), .agg (colsA g)] w fun e w' => e = .returned (.agg (colsA (fun v => f v || g v))) ∧ Below w.heap.size w w' := by
  obtain ⟨CF, hCF⟩ : ∃ CF, CF = colsA f := ⟨_, rfl⟩
  obtain ⟨CG, hCG⟩ : ∃ CG, CG = colsA g := ⟨_, rfl⟩
  rw [← hCF, ← hCG]
  have hz1 : CF.size = 16 := by rw [hCF]; exact colsA_size f
  have hz2 : CG.size = 16 := by rw [hCG]; exact colsA_size g
  have ho1 : CF.all (·.oneCell') = true := by rw [hCF]; exact colsA_one f
  have ho2 : CG.all (·.oneCell') = true := by rw [hCG]; exact colsA_one g
  have HF := Lib.hid hCF
  have HG := Lib.hid hCG
  clear hCF hCG
  obtain ⟨B, hB⟩ : ∃ B, B = w.heap.size := ⟨_, rfl⟩
  have HB := Lib.hid hB
  clear hB
  go_enter Try.func34, Try.ntmps34
  go_wp2_with fail
  rw [← HB.out]
  clear hz1 hz2 ho1 ho2
  go_loopg [6] 17 (fun q s6 wr => ∃ k : Nat, s6 = .int .i64 (k : Int) ∧ k ≤ 16 ∧ 16 - k ≤ q ∧ Below B w wr ∧ wr.heap[B]? = some (.cells (colsA fun v => if v / 64 < k then f v || g v else f v) 65 (0, 0)) ∧ wr.heap[B + 1]? = some (.cells CG 65 (0, 0)) ∧ wr.heap[B + 1 + 1]? = some (.cells zero16 65 (0, 0)))
  case atStart =>
    obtain ⟨h1, h2, h3, h4⟩ := three_blocks w CF CG zero16 65 65 65 B HB.out
    refine ⟨0, rfl, by omega, by omega, h1, ?_, h3, h4⟩
    rw [show (colsA fun v => if v / 64 < 0 then f v || g v else f v) = CF by rw [HF.out]; exact colsA_congr fun v _ => by simp]
    exact h2
  case round =>
    obtain ⟨k, rfl, hk, hkg, hbl, hb, hg, hr⟩ := hrel
    have HN : Hid (Below B w wr ∧ wr.heap[B]? = some (.cells (colsA fun v => if v / 64 < k then f v || g v else f v) 65 (0, 0)) ∧ wr.heap[B + 1]? = some (.cells CG 65 (0, 0)) ∧ wr.heap[B + 1 + 1]? = some (.cells zero16 65 (0, 0))) := Lib.hid ⟨hbl, hb, hg, hr⟩
    by_cases hlt : k < 16
    · have k0 : (0 : Int) ≤ (k : Int) := by omega
      have k1 : (k : Int) < 16 := by omega
      obtain ⟨V, hV⟩ : ∃ V, V = word f k := ⟨_, rfl⟩
      obtain ⟨U, hU⟩ : ∃ U, U = word g k := ⟨_, rfl⟩
      obtain ⟨X, hX⟩ : ∃ X, X = word (fun v => f v || g v) k := ⟨_, rfl⟩
      have hbt : bits .or .u64 (V : Int) (U : Int) = (X : Int) := by
        rw [or_u64 V U (by rw [hV]; exact word_lt _ _) (by rw [hU]; exact word_lt _ _), hX, hV, hU, word_or]
      have c1 : wr.cell? ⟨B, k, none⟩ = some (.int .u64 (V : Int)) := by
        simp only [World.cell?, hb, colsA_get _ k hlt]
        rw [hV, word_congr (f := fun v => if v / 64 < k then f v || g v else f v) (g := f) (i := k) fun v hv => by simp [hv]]
        rfl
      have c2 : wr.cell? ⟨B + 1, k, none⟩ = some (.int .u64 (U : Int)) := by
        simp only [World.cell?, hg]
        rw [HG.out, colsA_get _ k hlt, hU]
        rfl
      have hf1 : wr.frozen? ⟨B, k, none⟩ = false := by simp [World.frozen?, hb]
      have HSET : Hid ((colsA fun v => if v / 64 < k then f v || g v else f v).setIfInBounds k (.int .u64 (X : Int)) = colsA fun v => if v / 64 < k + 1 then f v || g v else f v) := Lib.hid (colsA_set _ _ _ _ (by
          rw [hX]; exact word_congr fun v hv => by simp [hv]) (fun j hj => word_congr fun v hv => by
          have : v / 64 < k + 1 ↔ v / 64 < k := by omega
          simp only [this]))
      clear hbl hb hg hr hV hU hX hlt
      go_wp2_with fail
      refine Thr.drawn [(0, false), (1, false), (2, false), (3, false), (4, false), (5, false), (6, false), (7, false), (8, true)] 8
        (fun w' => w'.cell? ⟨B, k, none⟩ = some (.int .u64 (V : Int)) ∧ w'.cell? ⟨B + 1, k, none⟩ = some (.int .u64 (U : Int))) (by kernel_rfl) (by kernel_rfl) (fun c a w d v h => by cases d <;> exact h) ⟨c1, c2⟩ ?_
      simp only [Thr.pick, Array.reduceGetElem?]
      iterate 8
        apply Thr.read rfl
        · intro w' hS
          go_simp
          (repeat rw [if_pos (by omega)])
          try with_reducible rfl
        simp only [Act.put, List.setIfInBounds_toArray, List.set_cons_zero, List.set_cons_succ]
      refine Thr.last rfl ?_
      intro K hK
      go_simp
      refine hK _ _ ?_
      clear hK
      go_wp2_with fail
      rw [show (k : Int) + 1 = ((k + 1 : Nat) : Int) by omega]
      go_roundg (gk - 1)
      case measure => omega
      case rel =>
        obtain ⟨n1, n2, n3, n4⟩ := HN.out
        refine ⟨k + 1, rfl, by omega, by omega, ?_, ?_, ?_, ?_⟩
        · exact (n1.setCell (p := ⟨B, k, none⟩) (Nat.le_refl B) _).trans ⟨rfl, rfl, rfl, Nat.le_refl _, fun _ _ => rfl⟩
        · show (wr.setCell ⟨B, k, none⟩ (.int .u64 (X : Int))).heap[B]? = _
          rw [← HSET.out]
          simp [World.setCell, Array.getElem?_modify, n2]
        · exact (Below.heap_setCell _ _ _ _ (show B + 1 ≠ B by omega)).trans n3
        · exact (Below.heap_setCell _ _ _ _ (show B + 1 + 1 ≠ B by omega)).trans n4
    · have k1 : ¬ ((k : Int) < 16) := by omega
      obtain rfl : k = 16 := by omega
      clear hlt hb
      have hb := HN.out.2.1
      rw [show (colsA fun v => if v / 64 < 16 then f v || g v else f v) = colsA fun v => f v || g v from colsA_congr fun v hv => by rw [if_pos (by omega)]] at hb
      obtain ⟨CX, hCX⟩ : ∃ CX, CX = colsA fun v => f v || g v := ⟨_, rfl⟩
      rw [← hCX] at hb
      have HCX := Lib.hid hCX
      have hz : CX.size = 16 := by rw [hCX]; exact colsA_size _
      have ho : CX.all (·.oneCell') = true := by rw [hCX]; exact colsA_one _
      have hi : (Try.prog.info? 65).map (·.size) = some CX.size := by rw [hz]; kernel_rfl
      have HZ := Lib.hid (And.intro hi (And.intro (show zero16.size = CX.size by rw [hz]; rfl) ho))
      have HBL := Lib.hid hbl
      clear hCX hz ho hi hbl
      go_wp2_with (first | (with_reducible refine wpList_load_row rfl 65 _ rfl _ rfl _ _ _ _ hb Try.underlying65 rfl HZ.out.1 ?_) | (with_reducible refine wpList_store_row rfl 65 _ _ rfl _ _ rfl rfl _ _ hr HZ.out.1 HZ.out.2.1 HZ.out.2.2 ?_))
      refine bodyPost_ret (v := .agg CX) ?_ rfl ?_
      · exact results_cell_row rfl _ _ (B + 1 + 1) 65 _ (0, 0) _ (by rfl) (setRow_heap _ _ _ _ _ _ hr) Try.underlying65 rfl HZ.out.1
      · refine ⟨by rw [HCX.out], ?_⟩
        rw [← HB.out]
        exact below_setRow HBL.out (by omega) _

set_option maxRecDepth 100000 in
theorem eq_u64 (d : Nat) (a b : Int) (w : World) : (Op.equalIn (d + 1) 63 (.int .u64 a) (.int .u64 b)).run Try.prog w = .ok (a == b) w := by
  simp [Op.equalIn, run_underlying Try.underlying63]
set_option maxRecDepth 100000 in
theorem part_u64 (cs : Array Value) (i : Nat) (v : Value) (h : cs[i]? = some v) (w : World) : (part 63 cs i).run Try.prog w = .ok v w := by
  have ha : ∀ w, (isAgg 63).run Try.prog w = .ok false w := fun _ => by kernel_rfl
  simp [part, ha, h]
set_option maxRecDepth 100000 in
theorem size_u64 (w : World) : (Go.sizeOf 63).run Try.prog w = .ok 1 w := by kernel_rfl
set_option maxRecDepth 100000 in
set_option maxHeartbeats 1000000 in
theorem eq_loop (xs : Array Value) (x : Nat → Int) (hx : ∀ i, i < 16 → xs[i]? = some (.int .u64 (x i))) (w : World) : ∀ (n i : Nat), i + n ≤ 16 →
    Sem.run Try.prog (forIn (List.range' i n) ((none : Option Bool), ()) fun i __s => do
              let __do_lift ← part 63 xs (i * 1)
              let __do_lift_1 ← part 63 zero16 (i * 1)
              let __do_lift ← Op.equalIn 9999 63 __do_lift __do_lift_1
              if (!__do_lift) = true then pure (ForInStep.done (some false, ())) else pure (ForInStep.yield (none, ()))) w
    = .ok (if (List.range' i n).all (fun i => x i == 0) = true then (none, ()) else (some false, ())) w
  | 0, i, _ => by simp
  | n + 1, i, h => by
    have hz : zero16[i]? = some (.int .u64 0) := by
      rw [zero16_eq, colsA_get _ i (by omega), word_zero]
      rfl
    have ih := eq_loop xs x hx w n (i + 1) (by omega)
    rw [List.range'_succ, List.forIn_cons, List.all_cons]
    simp only [Nat.mul_one] at ih ⊢
    simp only [Sem.run_bind, part_u64 xs i _ (hx i (by omega)), part_u64 zero16 i _ hz, Result.andThen_ok, eq_u64 9998]
    cases hxi : (x i == 0) with
    | true =>
      simp only [Bool.not_true, Bool.false_eq_true, if_false, Sem.run_pure, Result.andThen_ok, Bool.true_and]
      exact ih
    | false =>
      simp
set_option maxRecDepth 100000 in
set_option maxHeartbeats 1000000 in
theorem eq16 (xs : Array Value) (x : Nat → Int) (hx : ∀ i, i < 16 → xs[i]? = some (.int .u64 (x i))) (w : World) :
    (Op.equalIn 10000 65 (.agg xs) (.agg zero16)).run Try.prog w = .ok ((List.range 16).all fun i => x i == 0) w := by
  rw [show (10000 : Nat) = 9998 + 1 + 1 from rfl]
  unfold Op.equalIn
  simp only [Sem.run_bind, run_underlying Try.underlying65, Result.andThen_ok, size_u64]
  have := eq_loop xs x hx w 16 0 (by omega)
  rw [Std.Legacy.Range.forIn_eq_forIn_range']
  show (Sem.run Try.prog (forIn (List.range' 0 16) _ _) w).andThen _ = _
  rw [this, ← List.range_eq_range']
  split <;> rename_i h <;> simp [h]

theorem meets_all (f g : Nat → Bool) : (!(List.range 16).all fun i => ((word (fun v => f v && g v) i : Nat) : Int) == 0) = meetsB f g := by
  rw [Bool.eq_iff_iff, Bool.not_eq_true', ← Bool.not_eq_true, List.all_eq_true, meetsB_iff]
  constructor
  · intro h
    refine Classical.byContradiction fun hn => h fun i hi => ?_
    rw [List.mem_range] at hi
    rw [beq_iff_eq, word_congr (f := fun v => f v && g v) (g := fun _ => false) (i := i) (fun v hv => ?_), word_zero]
    · rfl
    · cases hh : (f v && g v) with
      | false => rfl
      | true =>
        rw [Bool.and_eq_true] at hh
        exact absurd ⟨v, by omega, hh⟩ hn
  · rintro ⟨v, hv, h1, h2⟩ h
    have := h (v / 64) (List.mem_range.2 (by omega))
    rw [beq_iff_eq] at this
    have := word_eq_zero (f := fun v => f v && g v) (i := v / 64) (by omega) v rfl
    simp [h1, h2] at this

set_option maxHeartbeats 4000000 in
set_option maxRecDepth 100000 in
/-- Have both a worker? -/
theorem meets_calls (f g : Nat → Bool) (w : World) :
    Calls Try.prog 33 #[.agg (colsA f), .agg (colsA g)] w fun e w' => e = .returned (.bool (meetsB f g)) ∧ Below w.heap.size w w' := by
  have hand := fun W => and_calls f g W
  obtain ⟨CF, hCF⟩ : ∃ CF, CF = colsA f := ⟨_, rfl⟩
  obtain ⟨CG, hCG⟩ : ∃ CG, CG = colsA g := ⟨_, rfl⟩
  rw [← hCF, ← hCG] at hand ⊢
  have hz1 : CF.size = 16 := by rw [hCF]; exact colsA_size f
  have hz2 : CG.size = 16 := by rw [hCG]; exact colsA_size g
  have hi1 : (Try.prog.info? 65).map (·.size) = some CF.size := by rw [hz1]; kernel_rfl
  have hi2 : (Try.prog.info? 65).map (·.size) = some CG.size := by rw [hz2]; kernel_rfl
  have HZ := Lib.hid (And.intro hi1 hi2)
  have HAND := Lib.hid hand
  obtain ⟨B, hB⟩ : ∃ B, B = w.heap.size := ⟨_, rfl⟩
  obtain ⟨W1, hW1⟩ : ∃ W1, W1 = (w.alloc (.cells CF 65)).alloc (.cells CG 65) := ⟨_, rfl⟩
  have hb : W1.heap[B]? = some (.cells CF 65 (0, 0)) := by rw [hW1, hB, Below.heap_alloc _ _ _ (by simp)]; exact box_heap _ _ _
  have hg : W1.heap[B + 1]? = some (.cells CG 65 (0, 0)) := by
    rw [hW1, hB]
    have := box_heap (w.alloc (.cells CF 65)) CG 65
    rwa [show (w.alloc (.cells CF 65)).heap.size = w.heap.size + 1 by simp] at this
  have hbl : Below B w W1 := by rw [hW1, hB]; exact ((Below.refl _ _).alloc (Nat.le_refl _) _).alloc (by simp) _
  have HB := Lib.hid hB
  have HW := Lib.hid hW1
  have HBL := Lib.hid hbl
  clear hB hW1 hbl hi1 hi2 hCF hCG hand
  go_enter Try.func33, Try.ntmps33
  go_upto_region 1 with (fail)
  rw [← HB.out, ← HW.out]
  clear hz1 hz2
  go_wp2_with (first | (with_reducible refine wpList_load_row (o := ⟨some 5, _, _, _, _, _⟩) rfl 65 _ rfl _ rfl _ _ _ _ hb Try.underlying65 rfl HZ.out.1 ?_) | (with_reducible refine wpList_load_row (o := ⟨some 6, _, _, _, _, _⟩) rfl 65 _ rfl _ rfl _ _ _ _ hg Try.underlying65 rfl HZ.out.2 ?_))
  refine (HAND.out W1).mono ?_
  rintro e w2 ⟨rfl, hb2⟩
  obtain ⟨CX, hCX⟩ : ∃ CX, CX = colsA fun v => f v && g v := ⟨_, rfl⟩
  rw [← hCX]
  have heq := fun W => eq16 CX (fun i => ((word (fun v => f v && g v) i : Nat) : Int)) (fun i hi => by rw [hCX]; exact colsA_get _ i hi) W
  have hall := meets_all f g
  obtain ⟨R, hR⟩ : ∃ R, R = (List.range 16).all fun i => ((word (fun v => f v && g v) i : Nat) : Int) == 0 := ⟨_, rfl⟩
  rw [← hR] at hall
  simp only [← hR] at heq
  have HALL := Lib.hid hall
  clear hCX hb hg hR hall
  unfold zero16 at heq
  go_wp2_with fail
  go_ret
  exact ⟨by rw [← HALL.out]; rfl, by rw [← HB.out]; exact HBL.out.trans (hb2.mono (by have := HBL.out.size; have := HB.out; omega))⟩
end Go.Proofs.Ytnokmbjgfglaoaa
