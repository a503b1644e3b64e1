/- GangNil, the walk. -/
import Derived.Test.YtnokmbjgfglaoaaNilLaw
import Derived.Test.YtnokmbjgfglaoaaKnown
set_option linter.unusedSimpArgs false
set_option linter.unusedVariables false
namespace Go.Proofs.Ytnokmbjgfglaoaa
open Go Go.RowKit Go.Lib Go.Sort

theorem idle_nil (x : Int) (w : World) : Calls Try.prog 27 #[.pointer none, .int .i64 x] w fun e w' => e = .returned (.int .i64 0) ∧ w' = w := by
  go_enter Try.func27, Try.ntmps27
  go_wp2_with fail
  go_ret
  exact ⟨rfl, rfl⟩

set_option maxHeartbeats 8000000 in
set_option maxRecDepth 100000 in
theorem nil_law (w : World) (v1 : Value) (n : Nat) (A : Nat → Int × Nat × Int) (h1 : ActsV w v1 n A) (id : Nat) :
    Calls Try.prog 9 #[v1, .int .u32 (id : Int)] w fun e w' => e = .returned (.bool true) ∧ Below w.heap.size w w' := by
  have HM := Lib.hid fun (W : World) (hb : Below w.heap.size w W) => (show Calls Try.prog 10 #[v1] W (MatrixE W) from matrix_any (by
    obtain ⟨hn, hh | ⟨a, c, rfl, hA⟩⟩ := h1
    · exact ⟨hn, .inl hh⟩
    · refine ⟨hn, .inr ⟨a, c, rfl, fun j hj => ?_⟩⟩
      obtain ⟨g0, g1, g2⟩ := hA j hj
      exact ⟨(hb.cell (World.block_lt_of_cell? w _ g0)).trans g0, (hb.cell (World.block_lt_of_cell? w _ g1)).trans g1, (hb.cell (World.block_lt_of_cell? w _ g2)).trans g2⟩))
  clear h1
  go_enter Try.func9, Try.ntmps9
  go_wp2_with fail
  refine (place_nil 1 0 w).mono ?_
  rintro e w1 ⟨rfl, hb1⟩
  have HB1 := Lib.hid hb1
  clear hb1
  go_wp2_with fail
  obtain ⟨Wa, hWa⟩ : ∃ W, W = w1.alloc (.cells #[.int .u32 0, .int .i64 0, .int .i64 0, .int .i64 0] 34) := ⟨_, rfl⟩
  have ha : Below w.heap.size w Wa := by rw [hWa]; exact HB1.out.alloc (by have := HB1.out.size; omega) _
  rw [← hWa]
  have HA := Lib.hid ha
  clear hWa ha
  refine (turn_nil _).mono ?_
  rintro e wn ⟨rfl, rfl⟩
  go_wp2_with fail
  refine (remove_nil 1 _).mono ?_
  rintro e wn ⟨rfl, rfl⟩
  go_wp2_with fail
  refine (unify_nil _).mono ?_
  rintro e wn ⟨rfl, rfl⟩
  go_wp2_with fail
  refine (active_nil _).mono ?_
  rintro e wn ⟨rfl, rfl⟩
  go_wp2_with fail
  refine (rows_nil _).mono ?_
  rintro e wn ⟨rfl, rfl⟩
  go_wp2_with fail
  refine (cells_nil _).mono ?_
  rintro e wn ⟨rfl, rfl⟩
  go_wp2_with fail
  refine (runs_nil _).mono ?_
  rintro e wn ⟨rfl, rfl⟩
  go_wp2_with fail
  refine (idle_nil 0 _).mono ?_
  rintro e wn ⟨rfl, rfl⟩
  go_wp2_with fail
  refine (HM.out _ HA.out).mono ?_
  rintro e w2 ⟨mb0, v0, m0, rfl, _, _, _, _, _, hb2⟩
  have HB2 := Lib.hid (HA.out.trans (hb2.mono HA.out.size))
  clear hb2
  go_wp2_with fail
  refine (new_calls 1 w2 (by omega)).mono ?_
  rintro e w3 ⟨rfl, hm, hb⟩
  obtain ⟨mb, hmb⟩ : ∃ mb, mb = w2.heap.size := ⟨_, rfl⟩
  rw [← hmb] at hm ⊢
  have S1 : MatS w w3 mb (.slice none 0 0) ⟨1, [], 0⟩ := ⟨hm, by
    intro k hk
    have := HB2.out.size
    rcases hk with rfl | h
    · omega
    · simp [Value.ownBlock] at h, HB2.out.trans (hb.mono HB2.out.size)⟩
  have H1 := Lib.hid S1
  clear hm hb hmb S1
  go_wp2_with fail
  obtain ⟨f, hf⟩ : ∃ f, f = 1 + id % 1000000 := ⟨_, rfl⟩
  rw [show (1 : Int) + (id : Int) % 1000000 = (f : Int) by omega]
  have hf1 : f ≠ 0 := by omega
  have hf2 : f ≤ 1000000 := by omega
  have HF1 := Lib.hid hf1
  clear hf hf1
  go_loopg [13] 16 (fun q s13 wr => ∃ (i : Nat) (v : Value), s13 = .int .u32 (i : Int) ∧ i ≤ 16 ∧ 16 - i ≤ q ∧ MatS w wr mb v ⟨1, colN f i, 0⟩ ∧ Good ⟨1, colN f i, 0⟩)
  case atStart => exact ⟨0, _, rfl, by omega, by omega, H1.out, good_new 1 (by omega)⟩
  case round =>
    clear H1
    obtain ⟨i, v, rfl, hi, hq, hs, hg⟩ := hrel
    have HS := Lib.hid hs
    have HG := Lib.hid hg
    clear hs hg
    by_cases hlt : i < 16
    · go_wp2_with fail
      rw [show (f : Int) + (i : Int) = ((f + i : Nat) : Int) by omega]
      refine (place_calls HS.out.at_ (by simp [colN]; omega) HG.out.fit (by simp) (f + i) 1).mono ?_
      rintro e wp ⟨r, ev, m', v', rfl, hp, hm2, hs2⟩
      obtain ⟨rfl, rfl, rfl, hg2⟩ := col_place hlt HF1.out HG.out hp
      have HN := Lib.hid (HS.out.step hm2 hs2)
      have HG2 := Lib.hid hg2
      obtain ⟨X, hX⟩ : ∃ X, X = wp.heap.size := ⟨_, rfl⟩
      obtain ⟨WX, hWX⟩ : ∃ WX, WX = wp.alloc (.cells #[.int .u32 ((f : Int) + (i : Int)), .int .i64 (i : Int), .int .i64 0, .int .i64 1] 34) := ⟨_, rfl⟩
      have hbX : Below wp.heap.size wp WX := by rw [hWX]; exact below_alloc' _ _
      have hx : WX.heap[X]? = some (.cells #[.int .u32 ((f : Int) + (i : Int)), .int .i64 (i : Int), .int .i64 0, .int .i64 1] 34 (0, 0)) := by rw [hWX, hX]; exact box_heap _ _ _
      have q1 : WX.cell? ⟨X, 1, none⟩ = some (.int .i64 (i : Int)) := by simp [World.cell?, hx]
      have HX := Lib.hid hX
      have HWX := Lib.hid hWX
      have HBX := Lib.hid (HN.out.on hbX)
      clear hp hm2 hs2 hg2 hX hWX hbX hx HG HS HN
      unfold cc
      go_upto_region 14 with (fail)
      rw [← HWX.out, ← HX.out]
      go_wp2_with fail
      rw [show (i : Int) + 1 = ((i + 1 : Nat) : Int) by omega]
      go_roundg (gk - 1)
      case measure => omega
      case rel => exact ⟨i + 1, v', rfl, by omega, by omega, HBX.out, HG2.out⟩
    · obtain rfl : i = 16 := by omega
      clear hq hi
      go_wp2_with fail
      rw [show (f : Int) + 16 = ((f + 16 : Nat) : Int) by omega]
      refine (place_calls HS.out.at_ (by simp [colN]) HG.out.fit (by simp) (f + 16) 0).mono ?_
      rintro e wp ⟨r, ev, m', v', rfl, hp, hm2, hs2⟩
      obtain ⟨rfl, rfl⟩ := col_full HF1.out hp
      have HN := Lib.hid (HS.out.step hm2 hs2)
      clear hp hm2 hs2 HS
      unfold cc
      go_upto_region 17 with (fail)
      obtain ⟨WX, hWX⟩ : ∃ WX, WX = wp.alloc (.cells #[.int .u32 (r.id : Int), .int .i64 (r.row : Int), .int .i64 (r.s : Int), .int .i64 (r.o : Int)] 34) := ⟨_, rfl⟩
      rw [← hWX]
      have hbX : Below wp.heap.size wp WX := by rw [hWX]; exact below_alloc' _ _
      have HBX := Lib.hid (HN.out.on hbX)
      clear hbX hWX HN
      go_wp2_with fail
      rw [show (f : Int) + 3 = ((f + 3 : Nat) : Int) by omega]
      have hrem := remove_calls HBX.out.at_ (by simp [colN]) (fun c hc => by have := HG.out.rows c hc; omega) (by simp) (f + 3)
      rw [col_remove] at hrem
      refine hrem.mono ?_
      rintro e wq ⟨rfl, v2, hm2, hs2⟩
      have HS := Lib.hid (HBX.out.step hm2 hs2)
      have hgx := (good_remove HG.out (f + 3)).1
      rw [col_remove] at hgx
      have HGX := Lib.hid hgx
      clear hrem hm2 hs2 hgx HBX HG
      go_wp2_with fail
      rw [show (f : Int) + 17 = ((f + 17 : Nat) : Int) by omega]
      refine (place_calls HS.out.at_ (by show (colX f).length ≤ 1000; rw [colX_eq]; simp [colN]) HGX.out.fit (by simp) (f + 17) 0).mono ?_
      rintro e wr2 ⟨r2, ev, m', v3, rfl, hp, hm2, hs2⟩
      obtain ⟨rfl, rfl, rfl⟩ := col_last HF1.out HGX.out hp
      have hgy := (good_place HGX.out hp).1
      have HN := Lib.hid (HS.out.step hm2 hs2)
      have HGY := Lib.hid hgy
      clear hp hm2 hs2 hgy HS HGX
      unfold cc
      go_upto_region 19 with (fail)
      obtain ⟨X, hX⟩ : ∃ X, X = wr2.heap.size := ⟨_, rfl⟩
      obtain ⟨WZ, hWZ⟩ : ∃ WZ, WZ = wr2.alloc (.cells #[.int .u32 ((f : Int) + 17), .int .i64 3, .int .i64 0, .int .i64 0] 34) := ⟨_, rfl⟩
      have hbZ : Below wr2.heap.size wr2 WZ := by rw [hWZ]; exact below_alloc' _ _
      have hx : WZ.heap[X]? = some (.cells #[.int .u32 ((f : Int) + 17), .int .i64 3, .int .i64 0, .int .i64 0] 34 (0, 0)) := by rw [hWZ, hX]; exact box_heap _ _ _
      have q1 : WZ.cell? ⟨X, 1, none⟩ = some (.int .i64 3) := by simp [World.cell?, hx]
      rw [← hWZ, ← hX]
      have HZ := Lib.hid (HN.out.on hbZ)
      clear hX hWZ hbZ hx HN
      go_wp2_with fail
      refine (rows_calls HZ.out.at_ (by simp [colY, colN]) (fun c hc => by have := HGY.out.rows c hc; omega)).mono ?_
      rintro e wv ⟨rfl, hb⟩
      rw [show ((rowsN (Mx.mk 1 (colY f) 0).cells : Nat) : Int) = 16 by rw [show (Mx.mk 1 (colY f) 0).cells = colY f from rfl, colY_rows]; rfl]
      have HV := Lib.hid (HZ.out.on hb)
      clear hb q1 HZ HGY
      go_wp2_with fail
      refine (known_calls _).mono ?_
      rintro e wk ⟨rfl, hb⟩
      have HK := Lib.hid (HV.out.below.trans (hb.mono HV.out.below.size))
      clear hb HV
      go_wp2_with fail
      go_ret
      exact ⟨rfl, HK.out⟩
theorem nil_law_int (w : World) (v1 : Value) (n : Nat) (A : Nat → Int × Nat × Int) (h1 : ActsV w v1 n A) (id : Int) (h0 : 0 ≤ id) :
    Calls Try.prog 9 #[v1, .int .u32 id] w fun e w' => e = .returned (.bool true) ∧ Below w.heap.size w w' := by
  have h := nil_law w v1 n A h1 id.toNat
  rwa [Int.toNat_of_nonneg h0] at h
end Go.Proofs.Ytnokmbjgfglaoaa
