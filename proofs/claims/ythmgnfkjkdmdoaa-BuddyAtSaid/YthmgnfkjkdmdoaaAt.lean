/- The law BuddyAt. -/
import Derived.Test.YthmgnfkjkdmdoaaWhole
import Derived.Test.YthmgnfkjkdmdoaaInside
import Derived.Test.YthmgnfkjkdmdoaaNil
import Derived.WalkLawsBesides
set_option linter.unusedSimpArgs false
set_option linter.unusedVariables false
namespace Go.Proofs.Ythmgnfkjkdmdoaa
open Go Go.RowKit Bud

theorem ActsV.below {w w' : World} {v : Value} {n : Nat} {A : Nat → Int × Int × Int} (h : ActsV w v n A) (hb : Below w.heap.size w w') : ActsV w' v n A :=
  ⟨h.1, h.2.imp id fun ⟨a, c, e, hA⟩ => ⟨a, c, e, hA.keep hb⟩⟩

theorem same_true {w : World} {v1 v2 : Value} {l : List Blk} (h1 : OwnB w v1 l) (h2 : OwnB w v2 l) (hl : l.length ≤ 1073741824) :
    Calls Try.prog 14 #[v1, v2] w fun e w' => e = .returned (.bool true) ∧ Below w.heap.size w w' := by
  refine (same_calls h1 h2 hl hl).mono ?_
  rintro e w' ⟨rfl, q, rfl⟩
  exact ⟨by simp, below_drewN' _ _⟩

theorem mayB_no {s o : Int} (h : o < 0 ∨ 5 < o ∨ s < 0 ∨ 32 ≤ s) : mayB 5 s o = false := by
  cases hm : mayB 5 s o with
  | false => rfl
  | true =>
    obtain ⟨a, b, c, d, _⟩ := mayB_iff.1 hm
    simp at d
    omega
theorem may_mod {s o : Int} {on : Nat} (h0 : 0 ≤ s) (h1 : s < 32) (e : o = (on : Int)) (h2 : 0 ≤ o) (h3 : o ≤ 5) : mayB 5 s o = (s % ((2 ^ on : Nat) : Int) == 0) := by
  obtain ⟨sn, rfl⟩ : ∃ sn : Nat, s = (sn : Int) := ⟨s.toNat, by omega⟩
  subst e
  have hm : (sn : Int) % ((2 ^ on : Nat) : Int) = ((sn % 2 ^ on : Nat) : Int) := by push_cast; rfl
  rw [hm, Bool.eq_iff_iff, mayB_iff, beq_iff_eq, Int.toNat_natCast, Int.toNat_natCast]
  constructor
  · rintro ⟨_, _, _, _, h⟩; rw [h]; rfl
  · intro h; exact ⟨by omega, by omega, by omega, by simp; omega, by omega⟩

set_option maxHeartbeats 16000000 in
set_option maxRecDepth 100000 in
theorem at_law (w : World) (v1 : Value) (n : Nat) (A : Nat → Int × Int × Int) (h1 : ActsV w v1 n A) (s o : Int) :
    Calls Try.prog 6 #[v1, .int .i64 s, .int .i64 o] w fun e w' => e = .returned (.bool true) ∧ Below w.heap.size w w' := by
  have hya := yard_any h1
  have g := run_good A (min n 60)
  have hn5 := run_n A (min n 60)
  have HZ : Hid (∀ w', Below w.heap.size w w' → Calls Try.prog 7 #[v1] w' fun e w'' => ∃ yb cs, e = .returned (.pointer (some ⟨yb, 0, none⟩)) ∧ YardAt w'' yb cs (runY A (min n 60)) ∧ (∀ k, foot yb cs k → w'.heap.size ≤ k) ∧ Below w'.heap.size w' w'') := Lib.hid fun w' hb => yard_any (h1.below hb)
  generalize runY A (min n 60) = y0 at *
  have HY := Lib.hid hya
  have HN5 := Lib.hid hn5
  clear h1 hya hn5
  go_enter Try.func6, Try.ntmps6
  go_wp2_with fail
  refine HY.out.mono ?_
  rintro e w1 ⟨yb, c1, rfl, hy1, hf1, hb1⟩
  have HY2 := Lib.hid (HZ.out w1 hb1)
  clear HY HZ
  go_wp2_with fail
  refine HY2.out.mono ?_
  rintro e w2 ⟨zb, c2, rfl, hz2, hf2, hb2⟩
  have hy2 := hy1.below hb2
  have hbw2 := hb1.trans (hb2.mono hb1.size)
  have HAP : Hid (∀ k, foot zb c2 k → ¬ foot yb c1 k) := Lib.hid fun k hk hf => by have := hf2 k hk; have := hy1.foot_lt k hf; omega
  have HF1 := Lib.hid hf1
  have HFR := Lib.hid (free_list hy2 g)
  clear HY2 hy1 hb1 hb2 hf1 hf2
  go_wp2_with fail
  refine HFR.out.mono ?_
  rintro e w3 ⟨vf, lf, rfl, hlf, hvf, hvf', hb3⟩
  have hs3 := SideB.new hy2 hvf hvf'
  have hy3 := hy2.below hb3
  have hz3 := hz2.below hb3
  have hbw3 := hbw2.trans (hb3.mono hbw2.size)
  have HLF := Lib.hid hlf
  clear HFR hvf hvf' hlf hb3 hy2 hz2 hbw2
  obtain ⟨BB, hBB⟩ : ∃ BB, BB = w3.heap.size := ⟨_, rfl⟩
  obtain ⟨W3, hW3⟩ : ∃ W3, W3 = w3.alloc (.cells #[.int .i64 s, .int .i64 o] 31) := ⟨_, rfl⟩
  have hbx : W3.heap[BB]? = some (.cells #[.int .i64 s, .int .i64 o] 31 (0, 0)) := by rw [hW3, hBB]; exact box_heap _ _ _
  have hb3 : Below w3.heap.size w3 W3 := by rw [hW3]; exact below_alloc' _ _
  have hy4 := hy3.below hb3
  have hz4 := hz3.below hb3
  have hs4 := hs3.below hb3
  have hbw4 := hbw3.trans (hb3.mono hbw3.size)
  have hoff : ¬ foot yb c1 BB := fun h => by have := hy3.foot_lt _ h; omega
  have HTA := Lib.hid (takeAt_calls hy4 g s o)
  obtain ⟨d0, d1⟩ := two_cells hbx
  have HW := Lib.hid hW3
  have HB := Lib.hid hBB
  have HBX := Lib.hid hbx
  clear hW3 hBB hbx hb3 hy3 hz3 hs3 hbw3
  go_wp2_with fail
  rw [← HW.out, ← HB.out]
  go_wp2_with fail
  refine HTA.out.mono ?_
  rintro e w5 ⟨rfl, c5, hy5, hst5⟩
  have hz5 := hz4.keep hst5.keeps (fun k hk hf => HAP.out k hk hf)
  have hs5 := hs4.step hst5
  obtain ⟨hf5, hbw5⟩ := fresh_step hbw4 HF1.out hst5
  have hbx5 : w5.heap[BB]? = some (.cells #[.int .i64 s, .int .i64 o] 31 (0, 0)) := by rw [hst5.keeps.block _ (Array.getElem?_eq_some_iff.1 HBX.out).1 hoff]; exact HBX.out
  have g5 := takeAtI_good g s o
  obtain ⟨r, hr⟩ : ∃ r, r = takeAtI y0 s o := ⟨_, rfl⟩
  rw [← hr] at hy5 g5 ⊢
  have HR := Lib.hid hr
  have HBX5 := Lib.hid hbx5
  clear HTA HW HB HBX hy4 hz4 hs4 hbw4 d0 d1 hr hf5 hst5 hbx5
  go_upto_region 8 with (fail)
  go_cut [12] (fun s12 wx => s12 = .bool (mayB 5 s o) ∧ wx = w5)
  case first =>
    clear hy5 hz5 hs5 hbw5 g5
    by_cases h1 : o < 0
    · have g1 : decide (o ≥ 0) = false := by rw [decide_eq_false_iff_not]; omega
      have hm := mayB_no (s := s) (o := o) (by omega)
      go_wp2_with fail
      go_meet
      exact ⟨by rw [hm], rfl⟩
    have g1 : decide (o ≥ 0) = true := by rw [decide_eq_true_eq]; omega
    by_cases h2 : 5 < o
    · have hm := mayB_no (s := s) (o := o) (.inr (.inl h2))
      have g2 : decide (o ≤ 5) = false := by rw [decide_eq_false_iff_not]; omega
      go_wp2_with fail
      go_meet
      exact ⟨by rw [hm], rfl⟩
    have g2 : decide (o ≤ 5) = true := by rw [decide_eq_true_eq]; omega
    by_cases h3 : s < 0
    · have g3 : decide (s ≥ 0) = false := by rw [decide_eq_false_iff_not]; omega
      have hm := mayB_no (s := s) (o := o) (by omega)
      go_wp2_with fail
      go_meet
      exact ⟨by rw [hm], rfl⟩
    have g3 : decide (s ≥ 0) = true := by rw [decide_eq_true_eq]; omega
    by_cases h4 : 32 ≤ s
    · have g4 : decide (s < 32) = false := by rw [decide_eq_false_iff_not]; omega
      have hm := mayB_no (s := s) (o := o) (by omega)
      go_wp2_with fail
      go_meet
      exact ⟨by rw [hm], rfl⟩
    have g4 : decide (s < 32) = true := by rw [decide_eq_true_eq]; omega
    have s0 : 0 ≤ s := by omega
    have HM : Hid (∀ on : Nat, o = (on : Int) → mayB 5 s o = (s % ((2 ^ on : Nat) : Int) == 0)) := Lib.hid fun on e => may_mod (by omega) (by omega) e (by omega) (by omega)
    have hc : o = 0 ∨ o = 1 ∨ o = 2 ∨ o = 3 ∨ o = 4 ∨ o = 5 := by omega
    clear h2 h3 h4
    rcases (hc : o = 0 ∨ o = 1 ∨ o = 2 ∨ o = 3 ∨ o = 4 ∨ o = 5) with rfl | rfl | rfl | rfl | rfl | rfl
    · have hx : wrap64 (2 ^ (max (min (0 : Int) 5) 0).toNat) = 1 := by decide +kernel
      have hm := HM.out 0 rfl
      clear HM h1
      have HM := Lib.hid hm
      clear hm
      go_wp2_with fail
      go_meet
      exact ⟨by rw [HM.out]; simp, rfl⟩
    · have hx : wrap64 (2 ^ (max (min (1 : Int) 5) 0).toNat) = 2 := by decide +kernel
      have hm := HM.out 1 rfl
      clear HM h1
      have HM := Lib.hid hm
      clear hm
      go_wp2_with fail
      go_meet
      exact ⟨by rw [HM.out]; simp, rfl⟩
    · have hx : wrap64 (2 ^ (max (min (2 : Int) 5) 0).toNat) = 4 := by decide +kernel
      have hm := HM.out 2 rfl
      clear HM h1
      have HM := Lib.hid hm
      clear hm
      go_wp2_with fail
      go_meet
      exact ⟨by rw [HM.out]; simp, rfl⟩
    · have hx : wrap64 (2 ^ (max (min (3 : Int) 5) 0).toNat) = 8 := by decide +kernel
      have hm := HM.out 3 rfl
      clear HM h1
      have HM := Lib.hid hm
      clear hm
      go_wp2_with fail
      go_meet
      exact ⟨by rw [HM.out]; simp, rfl⟩
    · have hx : wrap64 (2 ^ (max (min (4 : Int) 5) 0).toNat) = 16 := by decide +kernel
      have hm := HM.out 4 rfl
      clear HM h1
      have HM := Lib.hid hm
      clear hm
      go_wp2_with fail
      go_meet
      exact ⟨by rw [HM.out]; simp, rfl⟩
    · have hx : wrap64 (2 ^ (max (5 : Int) 0).toNat) = 32 := by decide +kernel
      have hm := HM.out 5 rfl
      clear HM h1
      have HM := Lib.hid hm
      clear hm
      go_wp2_with fail
      go_meet
      exact ⟨by rw [HM.out]; simp, rfl⟩
  case rest =>
    rename World => wx
    obtain ⟨rfl, hwx⟩ := hcut
    obtain rfl : wx = w5 := hwx
    obtain ⟨may, hmay⟩ : ∃ may, may = mayB 5 s o := ⟨_, rfl⟩
    rw [← hmay]
    cases may with
    | false =>
      have hm := hmay.symm
      clear hmay
      obtain rfl : r = (y0, 2) := by rw [HR.out, takeAtI, if_neg (by rw [HN5.out, hm]; simp)]
      simp only at hy5 g5
      have HFR := Lib.hid (free_list hy5 g5)
      clear HR hm
      go_wp2_with fail
      refine HFR.out.mono ?_
      rintro e w6 ⟨va, la, rfl, hla, hva, hva', hb6⟩
      have ela : la = lf := hla.unique HLF.out
      rw [ela] at hva
      have hbw6 := hbw5.trans (hb6.mono hbw5.size)
      have HS := Lib.hid (same_true hva (hs5.below hb6).own (by have := HLF.out.len g; omega))
      clear HFR hy5 hz5 hs5 hbw5 hla hva hva' ela hb6
      go_wp2_with fail
      refine HS.out.mono ?_
      rintro e w7 ⟨rfl, hb7⟩
      have hbw7 := hbw6.trans (hb7.mono hbw6.size)
      have HKN := Lib.hid (known_calls w7)
      clear HS hb7 hbw6
      go_wp2_with fail
      refine HKN.out.mono ?_
      rintro e w8 ⟨rfl, hb8⟩
      go_wp2_with fail
      go_ret
      exact ⟨rfl, hbw7.trans (hb8.mono hbw7.size)⟩
    | true =>
      obtain ⟨o0, o5, s0, s32, hmod⟩ := mayB_iff.1 hmay.symm
      have hsn : s.toNat < 32 := by simp at s32; omega
      obtain ⟨sn, rfl⟩ : ∃ sn : Nat, s = (sn : Int) := ⟨s.toNat, by omega⟩
      obtain ⟨on, hon⟩ : ∃ on : Nat, o = (on : Int) := ⟨o.toNat, by omega⟩
      obtain ⟨P, hP⟩ : ∃ P, P = 2 ^ on := ⟨_, rfl⟩
      have hon5 : on ≤ 5 := by omega
      have hP1 : 1 ≤ P := by rw [hP]; exact pow_pos' on
      have hP2 : P ≤ 32 := by rw [hP]; exact Nat.pow_le_pow_right (by omega) (show on ≤ 5 by omega)
      have hsh := shl_one on P (by omega) hP
      have hcv : IntKind.u64.wrap (on : Int) = (on : Int) := by rw [IntKind.wrap_u64]; omega
      rw [Int.toNat_natCast] at hsn
      have hr2 : r = takeAtY y0 sn on := by
        rw [HR.out, takeAtI, if_pos (by rw [HN5.out]; exact hmay.symm), hon, Int.toNat_natCast, Int.toNat_natCast]
      have hmod' : sn % 2 ^ on = 0 := by rw [hon, Int.toNat_natCast, Int.toNat_natCast] at hmod; exact hmod
      have hans : r.2 = if lf.any (holds sn P) = true then 0 else 5 := by rw [hr2, hP]; exact inside_iff g HLF.out (by rw [HN5.out]; exact hon5) hmod'
      rw [← hon] at hsh hcv
      have HANS := Lib.hid hans
      have hfl : lf.length ≤ 1024 := HLF.out.len g
      have HLO : Hid (∀ b ∈ lf, b.o ≤ 5 ∧ b.s + 2 ^ b.o ≤ 32) := Lib.hid fun b hb => by
        have := g.free_in ((HLF.out.mem b).1 hb)
        rw [HN5.out] at this
        exact ⟨this.1, this.2.2.1⟩
      clear o0 o5 s0 s32 hmod hon hon5 hr2 hmod' hans hmay HR hP
      have sn0 : (0 : Int) ≤ (sn : Int) := by omega
      obtain ⟨fa, fc, rfl, hfn, hfc, hfg⟩ := own_form hs5.own
      have HFG := Lib.hid hfg
      clear hfn hfc hfg
      go_wp2_with fail
      go_loopg [13, 14] 1100 (fun g s13 s14 wr => ∃ (k q : Nat), s13 = .bool ((lf.take k).any (holds sn P)) ∧ s14 = .int .i64 (k : Int) ∧ k ≤ lf.length ∧ lf.length - k ≤ g ∧ wr = wx.drewN q)
      case atStart => exact ⟨0, 0, rfl, rfl, by omega, by omega, rfl⟩
      case round =>
        obtain ⟨k, q, rfl, rfl, hkl, hkg, hwr⟩ := hrel
        have HWR := Lib.hid hwr
        clear hwr
        obtain ⟨R, hR⟩ : ∃ R, R = (lf.take k).any (holds sn P) := ⟨_, rfl⟩
        rw [← hR]
        have HRR := Lib.hid hR
        clear hR
        by_cases hlt : k < lf.length
        · obtain ⟨fb, rfl⟩ := HFG.out.resolve_left (by omega)
          obtain ⟨b, hb⟩ : ∃ b, lf[k]? = some b := ⟨_, List.getElem?_eq_getElem hlt⟩
          have hlo := HLO.out b (List.mem_of_getElem? hb)
          obtain ⟨e1, e2⟩ := OwnB.two hs5.own rfl k b hb
          have hnext : (lf.take (k + 1)).any (holds sn P) = (R || holds sn P b) := by
            rw [List.take_add_one, hb, List.any_append, HRR.out]
            simp
          have HNX := Lib.hid hnext
          obtain ⟨bs, bo⟩ := b
          simp only at e1 e2 hlo
          obtain ⟨Q, hQ⟩ : ∃ Q, Q = 2 ^ bo := ⟨_, rfl⟩
          have hQ1 : 1 ≤ Q := by rw [hQ]; exact pow_pos' bo
          have hhold : holds sn P ⟨bs, bo⟩ = decide (bs ≤ sn ∧ sn + P ≤ bs + Q) := by rw [hQ]; rfl
          have HHD := Lib.hid hhold
          have hsh2 := shl_one bo Q (by omega) hQ
          have hcv2 : IntKind.u64.wrap (bo : Int) = (bo : Int) := by rw [IntKind.wrap_u64]; omega
          have c1 : wr.cell? ⟨fb, k * 2, none⟩ = some (.int .i64 (bs : Int)) := by rw [HWR.out]; exact e1
          have c2 : wr.cell? ⟨fb, k * 2 + 1, none⟩ = some (.int .i64 (bo : Int)) := by rw [HWR.out]; exact e2
          rw [← hQ] at hlo
          obtain ⟨_, hlo2⟩ := hlo
          obtain ⟨ob, hob⟩ : ∃ ob : Int, (bo : Int) = ob := ⟨_, rfl⟩
          rw [hob] at hsh2 hcv2 c2
          have k0 : (0 : Int) ≤ (k : Int) := by omega
          have k1 : (k : Int) < (lf.length : Int) := by omega
          clear e1 e2 hb hnext hhold hQ hob hlt
          cases R with
          | true =>
            go_wp2_with fail
            go_quiet (fail)
            go_wp2_with fail
            rw [show (k : Int) + 1 = ((k + 1 : Nat) : Int) by omega]
            go_roundg (gk - 1)
            case measure => omega
            case rel => exact ⟨k + 1, q + nq, by rw [HNX.out]; rfl, rfl, by omega, by omega, by rw [HWR.out, World.drewN_drewN]⟩
          | false =>
            by_cases h6 : bs ≤ sn
            · have g6 : decide ((sn : Int) ≥ (bs : Int)) = true := by rw [decide_eq_true_eq]; omega
              by_cases h7 : sn + P ≤ bs + Q
              · have g7 : decide ((sn : Int) + (P : Int) ≤ (bs : Int) + (Q : Int)) = true := by rw [decide_eq_true_eq]; omega
                have HV : Hid ((lf.take (k + 1)).any (holds sn P) = true) := Lib.hid (by rw [HNX.out, HHD.out]; simp [h6, h7])
                go_wp2_with fail
                go_quiet (fail)
                go_wp2_with fail
                rw [show (k : Int) + 1 = ((k + 1 : Nat) : Int) by omega]
                go_roundg (gk - 1)
                case measure => omega
                case rel => exact ⟨k + 1, q + nq, by rw [HV.out], rfl, by omega, by omega, by rw [HWR.out, World.drewN_drewN]⟩
              · have g7 : decide ((sn : Int) + (P : Int) ≤ (bs : Int) + (Q : Int)) = false := by rw [decide_eq_false_iff_not]; omega
                have HV : Hid ((lf.take (k + 1)).any (holds sn P) = false) := Lib.hid (by rw [HNX.out, HHD.out]; simp [h7])
                go_wp2_with fail
                go_quiet (fail)
                go_wp2_with fail
                rw [show (k : Int) + 1 = ((k + 1 : Nat) : Int) by omega]
                go_roundg (gk - 1)
                case measure => omega
                case rel => exact ⟨k + 1, q + nq, by rw [HV.out], rfl, by omega, by omega, by rw [HWR.out, World.drewN_drewN]⟩
            · have g6 : decide ((sn : Int) ≥ (bs : Int)) = false := by rw [decide_eq_false_iff_not]; omega
              have HV : Hid ((lf.take (k + 1)).any (holds sn P) = false) := Lib.hid (by rw [HNX.out, HHD.out]; simp [h6])
              go_wp2_with fail
              go_quiet (fail)
              go_wp2_with fail
              rw [show (k : Int) + 1 = ((k + 1 : Nat) : Int) by omega]
              go_roundg (gk - 1)
              case measure => omega
              case rel => exact ⟨k + 1, q + nq, by rw [HV.out], rfl, by omega, by omega, by rw [HWR.out, World.drewN_drewN]⟩
        · have hans : r.2 = if R = true then 0 else 5 := by
            have := HANS.out
            rwa [show lf = lf.take k from (List.take_of_length_le (by omega)).symm, ← HRR.out] at this
          have qn : ¬ ((k : Int) < (lf.length : Int)) := by omega
          cases R with
          | true =>
            have hq : Below wx.heap.size wx wr := by rw [HWR.out]; exact below_drewN' _ _
            have hzr := hz5.below hq
            have hsr := hs5.below hq
            have hbr := hbw5.trans (hq.mono hbw5.size)
            have HBr : Hid (wr.heap[BB]? = some (.cells #[.int .i64 (sn : Int), .int .i64 o] 31 (0, 0))) := Lib.hid (by rw [hq.block _ (Array.getElem?_eq_some_iff.1 HBX5.out).1]; exact HBX5.out)
            have HFZ := Lib.hid (free_list hzr g)
            rw [if_pos rfl] at hans
            clear hy5 hz5 hs5 hbw5 hq hlt
            go_wp2_with fail
            refine HFZ.out.mono ?_
            rintro e w6 ⟨vz, lz, rfl, hlz, hvz, hvz', hb6⟩
            have elz : lz = lf := hlz.unique HLF.out
            rw [elz] at hvz
            have HS := Lib.hid (same_true hvz (hsr.below hb6).own (by omega))
            have hb6' := hbr.trans (hb6.mono hbr.size)
            have HB6 : Hid (w6.heap[BB]? = some (.cells #[.int .i64 (sn : Int), .int .i64 o] 31 (0, 0))) := Lib.hid (by rw [hb6.block _ (Array.getElem?_eq_some_iff.1 HBr.out).1]; exact HBr.out)
            clear hlz hvz hvz' elz hzr hsr hbr hb6 HFZ HBr
            go_wp2_with fail
            refine HS.out.mono ?_
            rintro e w7 ⟨rfl, hb7⟩
            have hb7' := hb6'.trans (hb7.mono hb6'.size)
            have HB7 : Hid (w7.heap[BB]? = some (.cells #[.int .i64 (sn : Int), .int .i64 o] 31 (0, 0))) := Lib.hid (by rw [hb7.block _ (Array.getElem?_eq_some_iff.1 HB6.out).1]; exact HB6.out)
            clear HS hb6' hb7 HB6
            go_wp2_with fail
            refine (take_nil 0 w7).mono ?_
            rintro e wq ⟨rfl, ewq⟩
            obtain rfl : wq = w7 := ewq
            try clear ewq
            go_wp2_with fail
            refine (held_nil 0 wq).mono ?_
            rintro e w8 ⟨rfl, hb8⟩
            have hb8' := hb7'.trans (hb8.mono hb7'.size)
            have HB8 : Hid (w8.heap[BB]? = some (.cells #[.int .i64 (sn : Int), .int .i64 o] 31 (0, 0))) := Lib.hid (by rw [hb8.block _ (Array.getElem?_eq_some_iff.1 HB7.out).1]; exact HB7.out)
            clear hb7' hb8 HB7
            obtain ⟨W8, hW8⟩ : ∃ W8, W8 = w8.alloc (.cells #[.int .i64 0, .int .i64 0] 31) := ⟨_, rfl⟩
            have hbA : Below w8.heap.size w8 W8 := by rw [hW8]; exact below_alloc' _ _
            have hb9 := hb8'.trans (hbA.mono hb8'.size)
            have hbx9 : W8.heap[BB]? = some (.cells #[.int .i64 (sn : Int), .int .i64 o] 31 (0, 0)) := by rw [hbA.block _ (Array.getElem?_eq_some_iff.1 HB8.out).1]; exact HB8.out
            obtain ⟨d0, d1⟩ := two_cells hbx9
            have f0 := two_frozen (box_heap w8 #[.int .i64 0, .int .i64 0] 31) 0
            have HW8 := Lib.hid hW8
            clear hb8' hbA hbx9 HB8 hW8
            go_wp2_with fail
            rw [← HW8.out]
            clear f0
            refine (order_nil W8).mono ?_
            rintro e wq ⟨rfl, ewq⟩
            obtain rfl : wq = W8 := ewq
            try clear ewq
            go_wp2_with fail
            refine (takeAt_nil (sn : Int) o wq).mono ?_
            rintro e wa ⟨rfl, hba⟩
            have hba' := hb9.trans (hba.mono hb9.size)
            clear hb9 hba d0 d1 HW8
            go_wp2_with fail
            refine (give_nil 0 wa).mono ?_
            rintro e wq ⟨rfl, ewq⟩
            obtain rfl : wq = wa := ewq
            try clear ewq
            obtain ⟨wa, rfl⟩ : ∃ wa, wa = wq := ⟨_, rfl⟩
            go_wp2_with fail
            refine (fail_nil 0 wa).mono ?_
            rintro e wq ⟨rfl, ewq⟩
            obtain rfl : wq = wa := ewq
            try clear ewq
            obtain ⟨wa, rfl⟩ : ∃ wa, wa = wq := ⟨_, rfl⟩
            go_wp2_with fail
            refine (heal_nil 0 wa).mono ?_
            rintro e wq ⟨rfl, ewq⟩
            obtain rfl : wq = wa := ewq
            try clear ewq
            obtain ⟨wa, rfl⟩ : ∃ wa, wa = wq := ⟨_, rfl⟩
            go_wp2_with fail
            refine (failed_nil wa).mono ?_
            rintro e wq ⟨rfl, ewq⟩
            obtain rfl : wq = wa := ewq
            try clear ewq
            obtain ⟨wa, rfl⟩ : ∃ wa, wa = wq := ⟨_, rfl⟩
            go_wp2_with fail
            refine (free_nil wa).mono ?_
            rintro e wq ⟨rfl, ewq⟩
            obtain rfl : wq = wa := ewq
            try clear ewq
            obtain ⟨wa, rfl⟩ : ∃ wa, wa = wq := ⟨_, rfl⟩
            go_wp2_with fail
            refine (taken_nil wa).mono ?_
            rintro e wq ⟨rfl, ewq⟩
            obtain rfl : wq = wa := ewq
            try clear ewq
            obtain ⟨wa, rfl⟩ : ∃ wa, wa = wq := ⟨_, rfl⟩
            go_wp2_with fail
            refine (fits_nil 0 wa).mono ?_
            rintro e wq ⟨rfl, ewq⟩
            obtain rfl : wq = wa := ewq
            try clear ewq
            obtain ⟨wa, rfl⟩ : ∃ wa, wa = wq := ⟨_, rfl⟩
            go_wp2_with fail
            refine (would_nil 0 _ wa).mono ?_
            rintro e wq ⟨rfl, ewq⟩
            obtain rfl : wq = wa := ewq
            try clear ewq
            obtain ⟨wa, rfl⟩ : ∃ wa, wa = wq := ⟨_, rfl⟩
            go_wp2_with fail
            refine (known_calls wa).mono ?_
            rintro e wb ⟨rfl, hbb⟩
            go_wp2_with fail
            go_ret
            exact ⟨rfl, hba'.trans (hbb.mono hba'.size)⟩
          | false =>
            have hq : Below wx.heap.size wx wr := by rw [HWR.out]; exact below_drewN' _ _
            have hzr := hz5.below hq
            have hsr := hs5.below hq
            have hbr := hbw5.trans (hq.mono hbw5.size)
            have HBr : Hid (wr.heap[BB]? = some (.cells #[.int .i64 (sn : Int), .int .i64 o] 31 (0, 0))) := Lib.hid (by rw [hq.block _ (Array.getElem?_eq_some_iff.1 HBX5.out).1]; exact HBX5.out)
            have HFZ := Lib.hid (free_list hzr g)
            rw [if_neg (by simp)] at hans
            clear hy5 hz5 hs5 hbw5 hq hlt
            go_wp2_with fail
            refine HFZ.out.mono ?_
            rintro e w6 ⟨vz, lz, rfl, hlz, hvz, hvz', hb6⟩
            have elz : lz = lf := hlz.unique HLF.out
            rw [elz] at hvz
            have HS := Lib.hid (same_true hvz (hsr.below hb6).own (by omega))
            have hb6' := hbr.trans (hb6.mono hbr.size)
            have HB6 : Hid (w6.heap[BB]? = some (.cells #[.int .i64 (sn : Int), .int .i64 o] 31 (0, 0))) := Lib.hid (by rw [hb6.block _ (Array.getElem?_eq_some_iff.1 HBr.out).1]; exact HBr.out)
            clear hlz hvz hvz' elz hzr hsr hbr hb6 HFZ HBr
            go_wp2_with fail
            refine HS.out.mono ?_
            rintro e w7 ⟨rfl, hb7⟩
            have hb7' := hb6'.trans (hb7.mono hb6'.size)
            have HB7 : Hid (w7.heap[BB]? = some (.cells #[.int .i64 (sn : Int), .int .i64 o] 31 (0, 0))) := Lib.hid (by rw [hb7.block _ (Array.getElem?_eq_some_iff.1 HB6.out).1]; exact HB6.out)
            clear HS hb6' hb7 HB6
            go_wp2_with fail
            refine (take_nil 0 w7).mono ?_
            rintro e wq ⟨rfl, ewq⟩
            obtain rfl : wq = w7 := ewq
            try clear ewq
            go_wp2_with fail
            refine (held_nil 0 wq).mono ?_
            rintro e w8 ⟨rfl, hb8⟩
            have hb8' := hb7'.trans (hb8.mono hb7'.size)
            have HB8 : Hid (w8.heap[BB]? = some (.cells #[.int .i64 (sn : Int), .int .i64 o] 31 (0, 0))) := Lib.hid (by rw [hb8.block _ (Array.getElem?_eq_some_iff.1 HB7.out).1]; exact HB7.out)
            clear hb7' hb8 HB7
            obtain ⟨W8, hW8⟩ : ∃ W8, W8 = w8.alloc (.cells #[.int .i64 0, .int .i64 0] 31) := ⟨_, rfl⟩
            have hbA : Below w8.heap.size w8 W8 := by rw [hW8]; exact below_alloc' _ _
            have hb9 := hb8'.trans (hbA.mono hb8'.size)
            have hbx9 : W8.heap[BB]? = some (.cells #[.int .i64 (sn : Int), .int .i64 o] 31 (0, 0)) := by rw [hbA.block _ (Array.getElem?_eq_some_iff.1 HB8.out).1]; exact HB8.out
            obtain ⟨d0, d1⟩ := two_cells hbx9
            have f0 := two_frozen (box_heap w8 #[.int .i64 0, .int .i64 0] 31) 0
            have HW8 := Lib.hid hW8
            clear hb8' hbA hbx9 HB8 hW8
            go_wp2_with fail
            rw [← HW8.out]
            clear f0
            refine (order_nil W8).mono ?_
            rintro e wq ⟨rfl, ewq⟩
            obtain rfl : wq = W8 := ewq
            try clear ewq
            go_wp2_with fail
            refine (takeAt_nil (sn : Int) o wq).mono ?_
            rintro e wa ⟨rfl, hba⟩
            have hba' := hb9.trans (hba.mono hb9.size)
            clear hb9 hba d0 d1 HW8
            go_wp2_with fail
            refine (give_nil 0 wa).mono ?_
            rintro e wq ⟨rfl, ewq⟩
            obtain rfl : wq = wa := ewq
            try clear ewq
            obtain ⟨wa, rfl⟩ : ∃ wa, wa = wq := ⟨_, rfl⟩
            go_wp2_with fail
            refine (fail_nil 0 wa).mono ?_
            rintro e wq ⟨rfl, ewq⟩
            obtain rfl : wq = wa := ewq
            try clear ewq
            obtain ⟨wa, rfl⟩ : ∃ wa, wa = wq := ⟨_, rfl⟩
            go_wp2_with fail
            refine (heal_nil 0 wa).mono ?_
            rintro e wq ⟨rfl, ewq⟩
            obtain rfl : wq = wa := ewq
            try clear ewq
            obtain ⟨wa, rfl⟩ : ∃ wa, wa = wq := ⟨_, rfl⟩
            go_wp2_with fail
            refine (failed_nil wa).mono ?_
            rintro e wq ⟨rfl, ewq⟩
            obtain rfl : wq = wa := ewq
            try clear ewq
            obtain ⟨wa, rfl⟩ : ∃ wa, wa = wq := ⟨_, rfl⟩
            go_wp2_with fail
            refine (free_nil wa).mono ?_
            rintro e wq ⟨rfl, ewq⟩
            obtain rfl : wq = wa := ewq
            try clear ewq
            obtain ⟨wa, rfl⟩ : ∃ wa, wa = wq := ⟨_, rfl⟩
            go_wp2_with fail
            refine (taken_nil wa).mono ?_
            rintro e wq ⟨rfl, ewq⟩
            obtain rfl : wq = wa := ewq
            try clear ewq
            obtain ⟨wa, rfl⟩ : ∃ wa, wa = wq := ⟨_, rfl⟩
            go_wp2_with fail
            refine (fits_nil 0 wa).mono ?_
            rintro e wq ⟨rfl, ewq⟩
            obtain rfl : wq = wa := ewq
            try clear ewq
            obtain ⟨wa, rfl⟩ : ∃ wa, wa = wq := ⟨_, rfl⟩
            go_wp2_with fail
            refine (would_nil 0 _ wa).mono ?_
            rintro e wq ⟨rfl, ewq⟩
            obtain rfl : wq = wa := ewq
            try clear ewq
            obtain ⟨wa, rfl⟩ : ∃ wa, wa = wq := ⟨_, rfl⟩
            go_wp2_with fail
            refine (known_calls wa).mono ?_
            rintro e wb ⟨rfl, hbb⟩
            go_wp2_with fail
            go_ret
            exact ⟨rfl, hba'.trans (hbb.mono hba'.size)⟩
end Go.Proofs.Ythmgnfkjkdmdoaa
