/- Contract: known (the chapter's example): true. -/
import Derived.Test.YthmgnfkjkdmdoaaExample
import Derived.Test.YthmgnfkjkdmdoaaSame
set_option linter.unusedSimpArgs false
set_option linter.unusedVariables false
namespace Go.Proofs.Ythmgnfkjkdmdoaa
open Go Go.RowKit Bud

/-- A literal of blocks in a block of its own. -/
theorem own_lit (w : World) (l : List Blk) (n : Nat) (hn : n = l.length) (hl : n ≤ 1000) : OwnB (w.alloc (.cells (bv l).toArray 31)) (.slice (some ⟨w.heap.size, 0, none⟩) n n) l := by
  subst hn
  exact Row.own_mk (heap_alloc_new w _) (Nat.zero_le _) (Nat.le_refl _) (by simp [maxLen]; omega) (by simp [length_bv]) (by simp [List.take_of_length_le, length_bv])

theorem own_below {w w' : World} {base e size n : Nat} {v : Value} {xs : List Value} (h : w.ownsRow base e size v n xs) (hb : Below w.heap.size w w') : w'.ownsRow base e size v n xs :=
  own_keeps h (Keeps.of_below (F := fun _ => False) hb) (fun _ _ h => h)

set_option maxHeartbeats 8000000 in
set_option maxRecDepth 100000 in
theorem known_calls (w : World) : Calls Try.prog 12 #[] w fun e w' => e = .returned (.bool true) ∧ Below w.heap.size w w' := by
  go_enter Try.func12, Try.ntmps12
  go_wp2_with fail
  refine (new_calls 3 w (by omega)).mono ?_
  rintro e w1 ⟨yb, c1, rfl, hy1, hf1, hb1⟩
  have HF := Lib.hid hf1
  clear hf1
  replace hy1 : YardAt w1 yb c1 ex0 := hy1
  have ht := take_calls hy1 ex0_good 1
  rw [take1] at ht
  have HT := Lib.hid ht
  clear ht
  go_wp2_with fail
  refine HT.out.mono ?_
  rintro e w2 ⟨rfl, c2, hy2, hst⟩
  obtain ⟨hf2, hb2⟩ := fresh_step hb1 HF.out hst
  clear HF HT hst hy1 hb1
  have HF := Lib.hid hf2
  clear hf2
  have ht := take_calls hy2 ex1_good 0
  rw [take2] at ht
  have HT := Lib.hid ht
  clear ht
  go_wp2_with fail
  refine HT.out.mono ?_
  rintro e w3 ⟨rfl, c3, hy3, hst⟩
  obtain ⟨hf3, hb3⟩ := fresh_step hb2 HF.out hst
  clear HF HT hst hy2 hb2
  have HF := Lib.hid hf3
  clear hf3
  have ht := take_calls hy3 ex2_good 1
  rw [take3] at ht
  have HT := Lib.hid ht
  clear ht
  go_wp2_with fail
  refine HT.out.mono ?_
  rintro e w4 ⟨rfl, c4, hy4, hst⟩
  obtain ⟨hf4, hb4⟩ := fresh_step hb3 HF.out hst
  clear HF HT hst hy3 hb3
  have HF := Lib.hid hf4
  clear hf4
  have HBX := Lib.hid hb4
  clear hb4
  have hfr := free_list hy4 ex3_good
  have HFR := Lib.hid hfr
  clear hfr
  go_wp2_with fail
  refine HFR.out.mono ?_
  rintro e wa ⟨va, l, rfl, hfl, hva, hfv, hba⟩
  obtain rfl : l = [⟨3, 0⟩, ⟨6, 1⟩] := hfl.unique list3
  obtain ⟨pa, ca, rfl, _, _, _⟩ := own_form hva
  have hya := hy4.below hba
  have hlit := own_lit wa [⟨3, 0⟩, ⟨6, 1⟩] 2 rfl (by omega)
  have hva2 := own_below hva (below_alloc' wa (.cells (bv [⟨3, 0⟩, ⟨6, 1⟩]).toArray 31))
  have hsm := same_calls hva2 hlit (by simp) (by simp)
  rw [show decide (([⟨3, 0⟩, ⟨6, 1⟩] : List Blk) = [⟨3, 0⟩, ⟨6, 1⟩]) = true by decide] at hsm
  replace hsm : Calls Try.prog 14 #[.slice pa 2 ca, .slice (some ⟨wa.heap.size, 0, none⟩) 2 2] (wa.alloc (.cells #[.int .i64 3, .int .i64 0, .int .i64 6, .int .i64 1] 31)) fun e w' => e = .returned (.bool true) ∧ ∃ q, w' = (wa.alloc (.cells #[.int .i64 3, .int .i64 0, .int .i64 6, .int .i64 1] 31)).drewN q := hsm
  have HSM := Lib.hid hsm
  clear HFR hfl hva hfv hlit hva2 hsm
  go_wp2_with fail
  refine HSM.out.mono ?_
  rintro e w5 ⟨rfl, q, hw⟩
  have hyw5 : YardAt w5 yb c4 ex3 := by rw [hw]; exact (hya.alloc _).drewN q
  have hbw5 : Below w.heap.size w w5 := by rw [hw]; exact (((HBX.out).trans (hba.mono HBX.out.size)).alloc (Nat.le_trans HBX.out.size hba.size) _).trans ((below_drewN' _ q).mono (Nat.le_trans HBX.out.size (Nat.le_trans hba.size (by simp))))
  clear HSM hw hya hba HBX
  have ht := fail_calls hyw5 ex3_good 7
  rw [fail4] at ht
  have HT := Lib.hid ht
  clear ht
  go_wp2_with fail
  refine HT.out.mono ?_
  rintro e w6 ⟨rfl, c6, hy6, hst⟩
  obtain ⟨hf6, hb6⟩ := fresh_step hbw5 HF.out hst
  clear HF HT hst hyw5 hbw5
  have HF := Lib.hid hf6
  clear hf6
  have HBX := Lib.hid hb6
  clear hb6
  have hfr := free_list hy6 ex4_good
  have HFR := Lib.hid hfr
  clear hfr
  go_wp2_with fail
  refine HFR.out.mono ?_
  rintro e wa ⟨va, l, rfl, hfl, hva, hfv, hba⟩
  obtain rfl : l = [⟨3, 0⟩, ⟨6, 0⟩] := hfl.unique list4
  obtain ⟨pa, ca, rfl, _, _, _⟩ := own_form hva
  have hya := hy6.below hba
  have hlit := own_lit wa [⟨3, 0⟩, ⟨6, 0⟩] 2 rfl (by omega)
  have hva2 := own_below hva (below_alloc' wa (.cells (bv [⟨3, 0⟩, ⟨6, 0⟩]).toArray 31))
  have hsm := same_calls hva2 hlit (by simp) (by simp)
  rw [show decide (([⟨3, 0⟩, ⟨6, 0⟩] : List Blk) = [⟨3, 0⟩, ⟨6, 0⟩]) = true by decide] at hsm
  replace hsm : Calls Try.prog 14 #[.slice pa 2 ca, .slice (some ⟨wa.heap.size, 0, none⟩) 2 2] (wa.alloc (.cells #[.int .i64 3, .int .i64 0, .int .i64 6, .int .i64 0] 31)) fun e w' => e = .returned (.bool true) ∧ ∃ q, w' = (wa.alloc (.cells #[.int .i64 3, .int .i64 0, .int .i64 6, .int .i64 0] 31)).drewN q := hsm
  have HSM := Lib.hid hsm
  clear HFR hfl hva hfv hlit hva2 hsm
  go_wp2_with fail
  refine HSM.out.mono ?_
  rintro e w7 ⟨rfl, q, hw⟩
  have hyw7 : YardAt w7 yb c6 ex4 := by rw [hw]; exact (hya.alloc _).drewN q
  have hbw7 : Below w.heap.size w w7 := by rw [hw]; exact (((HBX.out).trans (hba.mono HBX.out.size)).alloc (Nat.le_trans HBX.out.size hba.size) _).trans ((below_drewN' _ q).mono (Nat.le_trans HBX.out.size (Nat.le_trans hba.size (by simp))))
  clear HSM hw hya hba HBX
  have ht := give_calls hyw7 ex4_good 0
  rw [give5] at ht
  have HT := Lib.hid ht
  clear ht
  go_wp2_with fail
  refine HT.out.mono ?_
  rintro e w8 ⟨rfl, c8, hy8, hst⟩
  obtain ⟨hf8, hb8⟩ := fresh_step hbw7 HF.out hst
  clear HF HT hst hyw7 hbw7
  have HF := Lib.hid hf8
  clear hf8
  have HBX := Lib.hid hb8
  clear hb8
  have hfr := free_list hy8 ex5_good
  have HFR := Lib.hid hfr
  clear hfr
  go_wp2_with fail
  refine HFR.out.mono ?_
  rintro e wa ⟨va, l, rfl, hfl, hva, hfv, hba⟩
  obtain rfl : l = [⟨0, 1⟩, ⟨3, 0⟩, ⟨6, 0⟩] := hfl.unique list5
  obtain ⟨pa, ca, rfl, _, _, _⟩ := own_form hva
  have hya := hy8.below hba
  have hlit := own_lit wa [⟨0, 1⟩, ⟨3, 0⟩, ⟨6, 0⟩] 3 rfl (by omega)
  have hva2 := own_below hva (below_alloc' wa (.cells (bv [⟨0, 1⟩, ⟨3, 0⟩, ⟨6, 0⟩]).toArray 31))
  have hsm := same_calls hva2 hlit (by simp) (by simp)
  rw [show decide (([⟨0, 1⟩, ⟨3, 0⟩, ⟨6, 0⟩] : List Blk) = [⟨0, 1⟩, ⟨3, 0⟩, ⟨6, 0⟩]) = true by decide] at hsm
  replace hsm : Calls Try.prog 14 #[.slice pa 3 ca, .slice (some ⟨wa.heap.size, 0, none⟩) 3 3] (wa.alloc (.cells #[.int .i64 0, .int .i64 1, .int .i64 3, .int .i64 0, .int .i64 6, .int .i64 0] 31)) fun e w' => e = .returned (.bool true) ∧ ∃ q, w' = (wa.alloc (.cells #[.int .i64 0, .int .i64 1, .int .i64 3, .int .i64 0, .int .i64 6, .int .i64 0] 31)).drewN q := hsm
  have HSM := Lib.hid hsm
  clear HFR hfl hva hfv hlit hva2 hsm
  go_wp2_with fail
  refine HSM.out.mono ?_
  rintro e w9 ⟨rfl, q, hw⟩
  have hyw9 : YardAt w9 yb c8 ex5 := by rw [hw]; exact (hya.alloc _).drewN q
  have hbw9 : Below w.heap.size w w9 := by rw [hw]; exact (((HBX.out).trans (hba.mono HBX.out.size)).alloc (Nat.le_trans HBX.out.size hba.size) _).trans ((below_drewN' _ q).mono (Nat.le_trans HBX.out.size (Nat.le_trans hba.size (by simp))))
  clear HSM hw hya hba HBX
  have hin : IntsAt (w9.alloc (.cells #[.int .i64 2] 3)) ⟨w9.heap.size, 0, none⟩ 1 (fun _ => 2) := fun j hj => by
    obtain rfl : j = 0 := by omega
    exact box_cell w9 _ _ 0
  have hwd := would_walk (hyw9.alloc (.cells #[.int .i64 2] 3)) ex5_good 2 _ 1 (fun _ => 2) (.inr ⟨_, 1, rfl, hin⟩) (by simp [maxLen])
  rw [show giveAll ex5 (fun _ => 2) 1 = (giveY ex5 2).1 from rfl, fits6] at hwd
  have hft := fun W (hW : YardAt W yb c8 ex5) => fits_calls hW 2
  rw [fits5] at hft
  have HWD := Lib.hid hwd
  have HFT := Lib.hid hft
  clear hwd hft hin
  go_wp2_with fail
  refine HWD.out.mono ?_
  rintro e w10 ⟨rfl, hb10⟩
  have hy10 := (hyw9.alloc (.cells #[.int .i64 2] 3)).below hb10
  have hb11 : Below w.heap.size w w10 := (hbw9.alloc hbw9.size _).trans (hb10.mono (Nat.le_trans hbw9.size (by simp)))
  have HX := Lib.hid (HFT.out w10 hy10)
  clear HFT HWD
  go_wp2_with fail
  refine HX.out.mono ?_
  rintro e w11 ⟨rfl, rfl⟩
  go_wp2_with fail
  go_ret
  exact ⟨rfl, hb11⟩
end Go.Proofs.Ythmgnfkjkdmdoaa
