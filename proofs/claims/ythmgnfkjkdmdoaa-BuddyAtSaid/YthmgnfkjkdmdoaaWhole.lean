/- The law BuddyWhole. -/
import Derived.Test.YthmgnfkjkdmdoaaSide
import Derived.Test.YthmgnfkjkdmdoaaCount
import Derived.Test.YthmgnfkjkdmdoaaKnown
import Derived.Deep.QuietTactic
import Derived.BigQuiet
set_option linter.unusedSimpArgs false
set_option linter.unusedVariables false
namespace Go.Proofs.Ythmgnfkjkdmdoaa
open Go Go.RowKit Bud

/-- 32 counters. -/
def cells32 (c : Nat → Nat) : Array Value := ((List.range 32).map fun v => Value.int .i64 ((c v : Nat) : Int)).toArray
theorem cells32_get (c : Nat → Nat) (i : Nat) (h : i < 32) : (cells32 c)[i]? = some (.int .i64 ((c i : Nat) : Int)) := by
  unfold cells32
  simp [h]
theorem cells32_set (c d : Nat → Nat) (i n : Nat) (hd : ∀ v, d v = if v = i then n else c v) : (cells32 c).setIfInBounds i (.int .i64 (n : Int)) = cells32 d := by
  unfold cells32
  apply Array.ext
  · simp
  · intro j h1 h2
    simp at h1 h2
    rw [Array.getElem_setIfInBounds]
    · simp only [List.getElem_toArray, List.getElem_map, List.getElem_range, hd]
      by_cases e : i = j
      · subst e; simp
      · rw [if_neg e, if_neg (Ne.symm e)]
        exact (List.getElem_map _).trans (by rw [List.getElem_range])
    · simpa using h1

theorem shl_one (o P : Nat) (ho : o ≤ 10) (hP : P = 2 ^ o) (yk : IntKind) : Op.shift .shl .i64 1 yk (o : Int) = pure (.int .i64 (P : Int)) := by
  rw [shift_shl_i64 yk 1 (o : Int) (by omega) (by omega)]
  have e : (1 : Int) * 2 ^ (o : Int).toNat = ((2 ^ o : Nat) : Int) := by rw [Int.toNat_natCast, Int.one_mul]; push_cast; rfl
  have hb : 2 ^ o ≤ 2 ^ 10 := Nat.pow_le_pow_right (by omega) ho
  rw [e, hP]
  generalize 2 ^ o = Q at *
  have hq : IntKind.i64.wrap (Q : Int) = (Q : Int) := by rw [IntKind.wrap_i64]; omega
  rw [hq]

/-- The counters, the yard, and the rows beside it. -/
structure WSt (w : World) (wr : World) (yb : Nat) (cs : Array Value) (nb : Nat) (y : Yd) (vf : Value) (lf : List Blk) (vt vb : Value) (c : Nat → Nat) : Prop where
  below : Below w.heap.size w wr
  yard : YardAt wr yb cs y
  f : OwnB wr vf lf
  t : OwnB wr vt y.taken
  b : OwnN wr vb y.failed
  arr : wr.heap[nb]? = some (.cells (cells32 c) 25 (0, 0))
  lt : w.heap.size ≤ nb
  offy : ¬ foot yb cs nb
  offf : vf.ownBlock ≠ some nb
  offt : vt.ownBlock ≠ some nb
  offb : vb.ownBlock ≠ some nb

section
variable {w wr wq : World} {yb : Nat} {cs : Array Value} {nb : Nat} {y : Yd} {vf vt vb : Value} {lf : List Blk} {c d : Nat → Nat}
theorem WSt.ltw (h : WSt w wr yb cs nb y vf lf vt vb c) : nb < wr.heap.size := (Array.getElem?_eq_some_iff.1 h.arr).1
theorem WSt.later (h : WSt w wr yb cs nb y vf lf vt vb c) (hb : Below wr.heap.size wr wq) : WSt w wq yb cs nb y vf lf vt vb c :=
  ⟨h.below.trans (hb.mono h.below.size), h.yard.below hb, own_keeps (F := fun _ => False) h.f (Keeps.of_below hb) (fun _ _ => id), own_keeps (F := fun _ => False) h.t (Keeps.of_below hb) (fun _ _ => id), own_keeps (F := fun _ => False) h.b (Keeps.of_below hb) (fun _ _ => id),
   by rw [hb.block nb h.ltw]; exact h.arr, h.lt, h.offy, h.offf, h.offt, h.offb⟩
theorem WSt.congr (h : WSt w wr yb cs nb y vf lf vt vb c) (e : ∀ v, d v = c v) : WSt w wr yb cs nb y vf lf vt vb d := by
  obtain rfl : d = c := funext e
  exact h
theorem WSt.cell (h : WSt w wr yb cs nb y vf lf vt vb c) (i : Nat) (hi : i < 32) : wr.cell? ⟨nb, i, none⟩ = some (.int .i64 ((c i : Nat) : Int)) := by
  simp [World.cell?, h.arr, cells32_get c i hi]
theorem WSt.frozen (h : WSt w wr yb cs nb y vf lf vt vb c) (i : Nat) : wr.frozen? ⟨nb, i, none⟩ = false := by
  simp [World.frozen?, h.arr]
theorem WSt.bump (h : WSt w wr yb cs nb y vf lf vt vb c) (i n : Nat) (hd : ∀ v, d v = if v = i then n else c v) : WSt w (wr.setCell ⟨nb, i, none⟩ (.int .i64 (n : Int))) yb cs nb y vf lf vt vb d := by
  have hk : Keeps (fun k => k = nb) wr (wr.setCell ⟨nb, i, none⟩ (.int .i64 (n : Int))) := Keeps.setCell (Keeps.refl _ _) _ _ (.inl rfl)
  refine ⟨h.below.setCell h.lt _, h.yard.keep hk (fun k hf e => h.offy (e ▸ hf)), own_keeps h.f hk (fun k hk' e => h.offf (e ▸ hk')), own_keeps h.t hk (fun k hk' e => h.offt (e ▸ hk')), own_keeps h.b hk (fun k hk' e => h.offb (e ▸ hk')), ?_, h.lt, h.offy, h.offf, h.offt, h.offb⟩
  have := h.arr
  simp [World.setCell, Array.getElem?_modify, this, cells32_set c d i n hd]
end

set_option maxHeartbeats 16000000 in
set_option maxRecDepth 100000 in
theorem whole_law (w : World) (v1 : Value) (n : Nat) (A : Nat → Int × Int × Int) (h1 : ActsV w v1 n A) :
    Calls Try.prog 3 #[v1] w fun e w' => e = .returned (.bool true) ∧ Below w.heap.size w w' := by
  have hya := yard_any h1
  have g := run_good A (min n 60)
  have hn5 := run_n A (min n 60)
  generalize runY A (min n 60) = y0 at *
  have HY := Lib.hid hya
  have HN5 := Lib.hid hn5
  clear h1 hya hn5
  go_enter Try.func3, Try.ntmps3
  go_wp2_with fail
  refine HY.out.mono ?_
  rintro e w1 ⟨yb, c1, rfl, hy1, hf1, hb1⟩
  obtain ⟨NB, hNB⟩ : ∃ NB, NB = w1.heap.size := ⟨_, rfl⟩
  have HNB := Lib.hid hNB
  clear HY hNB
  go_wp2_with fail
  rw [← HNB.out]
  obtain ⟨w2, hw2⟩ : ∃ w2, w2 = w1.alloc (.cells (cells32 fun _ => 0) 25) := ⟨_, rfl⟩
  show Calls _ _ _ (w1.alloc (.cells (cells32 fun _ => 0) 25)) _
  rw [← hw2]
  have hb2 : Below w1.heap.size w1 w2 := by rw [hw2]; exact below_alloc' _ _
  have ha2 : w2.heap[NB]? = some (.cells (cells32 fun _ => 0) 25 (0, 0)) := by rw [hw2, HNB.out]; exact box_heap _ _ _
  have hs2 : NB < w2.heap.size := (Array.getElem?_eq_some_iff.1 ha2).1
  have hfo : ¬ foot yb c1 NB := fun h => by have := hy1.foot_lt _ h; have := HNB.out; omega
  have hy2 := hy1.below hb2
  have HFR := Lib.hid (free_list hy2 g)
  have hbw2 := hb1.trans (hb2.mono hb1.size)
  have hb1s := hb1.size
  clear hw2 hb1 hb2 hy1
  refine HFR.out.mono ?_
  rintro e w3 ⟨vf, lf, rfl, hlf, hvf, hvf', hb3⟩
  have hy3 := hy2.below hb3
  have HTK := Lib.hid (taken_calls hy3 (by have := g.tlen; omega))
  clear HFR
  go_wp2_with fail
  refine HTK.out.mono ?_
  rintro e w4 ⟨vt, rfl, hvt, hvt', hb4⟩
  have hy4 := hy3.below hb4
  have HFD := Lib.hid (failed_calls hy4 (by have := g.flen; omega))
  clear HTK
  go_wp2_with fail
  refine HFD.out.mono ?_
  rintro e w5 ⟨vb, rfl, hvb, hvb', hb5⟩
  have hb35 : Below w3.heap.size w3 w5 := hb4.trans (hb5.mono hb4.size)
  have hb25 : Below w2.heap.size w2 w5 := hb3.trans (hb35.mono hb3.size)
  have hW : WSt w w5 yb c1 NB y0 vf lf vt vb (fun _ => 0) := ⟨hbw2.trans (hb25.mono hbw2.size), hy4.below hb5, own_below hvf hb35, own_below hvt hb5, hvb, by rw [hb25.block _ hs2]; exact ha2, by have := HNB.out; have := hb1s; omega,
    hfo, fun e => by have := hvf' _ e; omega, fun e => by have := hvt' _ e; have := hb3.size; omega, fun e => by have := hvb' _ e; have := hb3.size; have := hb4.size; omega⟩
  have HLF := Lib.hid hlf
  clear HFD hy2 hy3 hy4 hb3 hb4 hb5 hb35 hb25 hbw2 hvf hvf' hvt hvt' hvb hvb' ha2 hs2 hfo hlf hf1
  have hfl : lf.length ≤ 1024 := HLF.out.len g
  have htl : y0.taken.length ≤ 1024 := g.tlen
  have hbl : y0.failed.length ≤ 1024 := g.flen
  obtain ⟨fa, fc, rfl, hfn, hfc, hfg⟩ := own_form hW.f
  obtain ⟨ta, tc, rfl, htn, htc, htg⟩ := own_form hW.t
  obtain ⟨ba, bc', rfl, hbn, hbc, hbg⟩ := own_form hW.b
  have HFG := Lib.hid hfg
  have HTG := Lib.hid htg
  have HBG := Lib.hid hbg
  have HALL : Hid (∀ b ∈ lf ++ y0.taken, b.o ≤ 5 ∧ b.s + 2 ^ b.o ≤ 32 ∧ b.s % 2 ^ b.o = 0) := Lib.hid fun b hb => by
    have h5 := HN5.out
    rcases List.mem_append.1 hb with h | h
    · have := g.free_in ((HLF.out.mem b).1 h)
      rw [h5] at this
      exact ⟨this.1, this.2.2.1, this.2.1⟩
    · have := g.tin b h
      rw [h5] at this
      exact ⟨this.1, this.2.2, this.2.1⟩
  clear hfg htg hbg hfn hfc htn htc hbn hbc
  go_wp2_with fail
  go_loopg [8] 3000 (fun g s8 wr => ∃ (i : Nat), s8 = .int .i64 (i : Int) ∧ i ≤ lf.length + y0.taken.length ∧ lf.length + y0.taken.length - i ≤ g ∧ WSt w wr yb c1 NB y0 (.slice fa lf.length fc) lf (.slice ta y0.taken.length tc) (.slice ba y0.failed.length bc') (cnt ((lf ++ y0.taken).take i)))
  case atStart => exact ⟨0, rfl, by omega, by omega, hW.congr fun v => by simp [cnt]⟩
  case round =>
    clear hW
    obtain ⟨i, rfl, hil, hig, hW⟩ := hrel
    by_cases hlt : i < lf.length + y0.taken.length
    · obtain ⟨b, hb⟩ : ∃ b, (lf ++ y0.taken)[i]? = some b := ⟨_, List.getElem?_eq_getElem (by rw [List.length_append]; exact hlt)⟩
      have hall := HALL.out b (List.mem_of_getElem? hb)
      have HB := Lib.hid hb
      obtain ⟨bs, bo⟩ := b
      simp only at hall
      obtain ⟨hbo, hbs, hba⟩ := hall
      have q1 : decide ((i : Int) < (lf.length : Int) + (y0.taken.length : Int)) = true := by rw [decide_eq_true_eq]; omega
      have t0 : (0 : Int) ≤ (i : Int) := by omega
      obtain ⟨P, hP⟩ : ∃ P, P = 2 ^ bo := ⟨_, rfl⟩
      have hP1 : 1 ≤ P := by rw [hP]; exact pow_pos' bo
      rw [← hP] at hbs hba
      have hP2 : P ≤ 32 := by omega
      have hrm : ((bs : Int) % (P : Int) != 0) = false := by
        have : (bs : Int) % (P : Int) = ((bs % P : Nat) : Int) := by push_cast; rfl
        rw [this, hba]; rfl
      have HP := Lib.hid hP
      have g1 : decide ((bo : Int) < 0) = false := by rw [decide_eq_false_iff_not]; omega
      have g2 : decide ((bo : Int) > 5) = false := by rw [decide_eq_false_iff_not]; omega
      have g3 : decide ((bs : Int) < 0) = false := by rw [decide_eq_false_iff_not]; omega
      have g4 : decide ((bs : Int) + (P : Int) > 32) = false := by rw [decide_eq_false_iff_not]; omega
      have p0 : (1 : Int) ≤ (P : Int) := by omega
      have hsh := shl_one bo P (by omega) hP
      have hcv : IntKind.u64.wrap (bo : Int) = (bo : Int) := by rw [IntKind.wrap_u64]; omega
      obtain ⟨ob, hob⟩ : ∃ ob : Int, (bo : Int) = ob := ⟨_, rfl⟩
      rw [hob] at hsh hcv g1 g2
      have HOB := Lib.hid hob
      clear hP hba hob
      by_cases hf : i < lf.length
      · have t1 : (i : Int) < (lf.length : Int) := by omega
        obtain ⟨fb, rfl⟩ := HFG.out.resolve_left (by omega)
        obtain ⟨e1, e2⟩ := OwnB.two hW.f rfl i ⟨bs, bo⟩ (by rw [← hb, List.getElem?_append_left hf])
        have HW := Lib.hid hW
        have e3 := (World.cell?_alloc_lt wr (.cells #[.int .i64 0, .int .i64 0] 31) _ (World.block_lt_of_cell? wr _ e1)).trans e1
        have e4 := (World.cell?_alloc_lt wr (.cells #[.int .i64 0, .int .i64 0] 31) _ (World.block_lt_of_cell? wr _ e2)).trans e2
        clear hb hW e1 e2
        simp only at e3 e4
        rw [HOB.out] at e4
        have f0 := two_frozen (box_heap wr #[.int .i64 (bs : Int), .int .i64 ob] 31) 0
        have f1 := two_frozen (box_heap wr #[.int .i64 (bs : Int), .int .i64 ob] 31) 1
        go_wp2_with fail
        obtain ⟨go, rfl⟩ : ∃ go, go = gk := ⟨_, rfl⟩
        obtain ⟨wo, rfl⟩ : ∃ wo : World, wo = wr := ⟨_, rfl⟩
        go_loopg [10] 40 (fun g s10 wr => ∃ (k : Nat), s10 = .int .i64 (k : Int) ∧ k ≤ P ∧ P - k ≤ g ∧ WSt w wr yb c1 NB y0 (Value.slice (some ⟨fb, 0, none⟩) lf.length fc) lf (Value.slice ta y0.taken.length tc) (Value.slice ba y0.failed.length bc') (fun v => cnt ((lf ++ y0.taken).take i) v + if bs ≤ v ∧ v < bs + k then 1 else 0) ∧
          wr.heap[wo.heap.size]? = some (.cells #[.int .i64 (bs : Int), .int .i64 ob] 31 (0, 0)))
        case atStart => exact ⟨0, rfl, by omega, by omega, (HW.out.later (below_alloc' _ _)).congr (fun v => by rw [if_neg (by omega)]; rfl), box_heap _ _ _⟩
        case round =>
          obtain ⟨k, rfl, hkP, hkg, hW, hbx⟩ := hrel
          obtain ⟨d0, d1⟩ := two_cells hbx
          have f0 := two_frozen hbx 0
          have f1 := two_frozen hbx 1
          by_cases hlk : k < P
          · have k0 : (0 : Int) ≤ (k : Int) := by omega
            have s0 : (0 : Int) ≤ (bs : Int) + (k : Int) := by omega
            have s1 : (bs : Int) + (k : Int) < 32 := by omega
            have s2 : ((bs : Int) + (k : Int)).toNat = bs + k := by omega
            obtain ⟨C, hC⟩ : ∃ C, C = cnt ((lf ++ y0.taken).take i) (bs + k) := ⟨_, rfl⟩
            have hcell := hW.cell (bs + k) (by omega)
            have hfz := hW.frozen (bs + k)
            simp only [if_neg (show ¬ (bs ≤ bs + k ∧ bs + k < bs + k) by omega), Nat.add_zero] at hcell
            rw [← hC] at hcell
            have hCl : C ≤ 2048 := by
              rw [hC]
              refine Nat.le_trans List.countP_le_length ?_
              rw [List.length_take, List.length_append]
              omega
            have hne : NB ≠ wo.heap.size := by have := HW.out.ltw; omega
            have HBX := Lib.hid hbx
            have HN := Lib.hid (hW.bump (d := fun v => cnt ((lf ++ y0.taken).take i) v + if bs ≤ v ∧ v < bs + (k + 1) then 1 else 0) (bs + k) (C + 1) (fun v => by
              by_cases e : v = bs + k
              · subst e; rw [if_pos rfl, if_pos (by omega), hC]
              · rw [if_neg e]
                by_cases h : bs ≤ v ∧ v < bs + k
                · rw [if_pos h, if_pos (by omega)]
                · rw [if_neg h, if_neg (by omega)]))
            clear hC hW hbx
            go_wp2_with fail
            rw [show (k : Int) + 1 = ((k + 1 : Nat) : Int) by omega, show (C : Int) + 1 = ((C + 1 : Nat) : Int) by omega]
            go_roundg (gk - 1)
            case measure => omega
            case rel => exact ⟨k + 1, rfl, by omega, by omega, HN.out, by rw [← HBX.out]; exact Below.heap_setCell _ _ _ _ (Ne.symm hne)⟩
          · obtain rfl : k = P := by omega
            have HN := Lib.hid (hW.congr (d := cnt ((lf ++ y0.taken).take (i + 1))) (fun v => by
              rw [List.take_add_one, HB.out]
              unfold cnt
              rw [List.countP_append]
              congr 1
              simp [covers, HP.out]))
            clear hW hbx
            go_wp2_with fail
            rw [show (i : Int) + 1 = ((i + 1 : Nat) : Int) by omega]
            go_roundg (go - 1)
            case measure => omega
            case rel => exact ⟨i + 1, rfl, by omega, by omega, HN.out⟩
      · have t2 : (0 : Int) ≤ (i : Int) - (lf.length : Int) := by omega
        have t3 : (i : Int) - (lf.length : Int) < (y0.taken.length : Int) := by omega
        have t4 : ((i : Int) - (lf.length : Int)).toNat = i - lf.length := by omega
        obtain ⟨tb, rfl⟩ := HTG.out.resolve_left (by omega)
        obtain ⟨e1, e2⟩ := OwnB.two hW.t rfl (i - lf.length) ⟨bs, bo⟩ (by rw [← hb, List.getElem?_append_right (by omega)])
        have HW := Lib.hid hW
        have e3 := (World.cell?_alloc_lt wr (.cells #[.int .i64 0, .int .i64 0] 31) _ (World.block_lt_of_cell? wr _ e1)).trans e1
        have e4 := (World.cell?_alloc_lt wr (.cells #[.int .i64 0, .int .i64 0] 31) _ (World.block_lt_of_cell? wr _ e2)).trans e2
        clear hb hW e1 e2
        simp only at e3 e4
        rw [HOB.out] at e4
        have f0 := two_frozen (box_heap wr #[.int .i64 (bs : Int), .int .i64 ob] 31) 0
        have f1 := two_frozen (box_heap wr #[.int .i64 (bs : Int), .int .i64 ob] 31) 1
        go_wp2_with fail
        obtain ⟨go, rfl⟩ : ∃ go, go = gk := ⟨_, rfl⟩
        obtain ⟨wo, rfl⟩ : ∃ wo : World, wo = wr := ⟨_, rfl⟩
        go_loopg [10] 40 (fun g s10 wr => ∃ (k : Nat), s10 = .int .i64 (k : Int) ∧ k ≤ P ∧ P - k ≤ g ∧ WSt w wr yb c1 NB y0 (Value.slice fa lf.length fc) lf (Value.slice (some ⟨tb, 0, none⟩) y0.taken.length tc) (Value.slice ba y0.failed.length bc') (fun v => cnt ((lf ++ y0.taken).take i) v + if bs ≤ v ∧ v < bs + k then 1 else 0) ∧
          wr.heap[wo.heap.size]? = some (.cells #[.int .i64 (bs : Int), .int .i64 ob] 31 (0, 0)))
        case atStart => exact ⟨0, rfl, by omega, by omega, (HW.out.later (below_alloc' _ _)).congr (fun v => by rw [if_neg (by omega)]; rfl), box_heap _ _ _⟩
        case round =>
          obtain ⟨k, rfl, hkP, hkg, hW, hbx⟩ := hrel
          obtain ⟨d0, d1⟩ := two_cells hbx
          have f0 := two_frozen hbx 0
          have f1 := two_frozen hbx 1
          by_cases hlk : k < P
          · have k0 : (0 : Int) ≤ (k : Int) := by omega
            have s0 : (0 : Int) ≤ (bs : Int) + (k : Int) := by omega
            have s1 : (bs : Int) + (k : Int) < 32 := by omega
            have s2 : ((bs : Int) + (k : Int)).toNat = bs + k := by omega
            obtain ⟨C, hC⟩ : ∃ C, C = cnt ((lf ++ y0.taken).take i) (bs + k) := ⟨_, rfl⟩
            have hcell := hW.cell (bs + k) (by omega)
            have hfz := hW.frozen (bs + k)
            simp only [if_neg (show ¬ (bs ≤ bs + k ∧ bs + k < bs + k) by omega), Nat.add_zero] at hcell
            rw [← hC] at hcell
            have hCl : C ≤ 2048 := by
              rw [hC]
              refine Nat.le_trans List.countP_le_length ?_
              rw [List.length_take, List.length_append]
              omega
            have hne : NB ≠ wo.heap.size := by have := HW.out.ltw; omega
            have HBX := Lib.hid hbx
            have HN := Lib.hid (hW.bump (d := fun v => cnt ((lf ++ y0.taken).take i) v + if bs ≤ v ∧ v < bs + (k + 1) then 1 else 0) (bs + k) (C + 1) (fun v => by
              by_cases e : v = bs + k
              · subst e; rw [if_pos rfl, if_pos (by omega), hC]
              · rw [if_neg e]
                by_cases h : bs ≤ v ∧ v < bs + k
                · rw [if_pos h, if_pos (by omega)]
                · rw [if_neg h, if_neg (by omega)]))
            clear hC hW hbx
            go_wp2_with fail
            rw [show (k : Int) + 1 = ((k + 1 : Nat) : Int) by omega, show (C : Int) + 1 = ((C + 1 : Nat) : Int) by omega]
            go_roundg (gk - 1)
            case measure => omega
            case rel => exact ⟨k + 1, rfl, by omega, by omega, HN.out, by rw [← HBX.out]; exact Below.heap_setCell _ _ _ _ (Ne.symm hne)⟩
          · obtain rfl : k = P := by omega
            have HN := Lib.hid (hW.congr (d := cnt ((lf ++ y0.taken).take (i + 1))) (fun v => by
              rw [List.take_add_one, HB.out]
              unfold cnt
              rw [List.countP_append]
              congr 1
              simp [covers, HP.out]))
            clear hW hbx
            go_wp2_with fail
            rw [show (i : Int) + 1 = ((i + 1 : Nat) : Int) by omega]
            go_roundg (go - 1)
            case measure => omega
            case rel => exact ⟨i + 1, rfl, by omega, by omega, HN.out⟩
    · have hW2 := hW.congr (d := fun v => cnt (lf ++ y0.taken) v + bn y0 (y0.failed.take 0) v) (fun v => by
        rw [show (lf ++ y0.taken).take i = lf ++ y0.taken from List.take_of_length_le (by rw [List.length_append]; omega)]
        simp [bn])
      have qn : ¬ ((i : Int) < (lf.length : Int) + (y0.taken.length : Int)) := by omega
      clear hW hlt
      go_wp2_with fail
      obtain ⟨wo, rfl⟩ : ∃ wo : World, wo = wr := ⟨_, rfl⟩
      go_loopg [11] 1500 (fun g s11 wr => ∃ (i : Nat), s11 = .int .i64 (i : Int) ∧ i ≤ y0.failed.length ∧ y0.failed.length - i ≤ g ∧ WSt w wr yb c1 NB y0 (Value.slice fa lf.length fc) lf (Value.slice ta y0.taken.length tc) (Value.slice ba y0.failed.length bc') (fun v => cnt (lf ++ y0.taken) v + bn y0 (y0.failed.take i) v))
      case atStart => exact ⟨0, rfl, by omega, by omega, hW2⟩
      case round =>
        clear hW2
        obtain ⟨k, rfl, hkl, hkg, hW⟩ := hrel
        by_cases hlt : k < y0.failed.length
        · have k0 : (0 : Int) ≤ (k : Int) := by omega
          have k1 : (k : Int) < (y0.failed.length : Int) := by omega
          obtain ⟨bb, rfl⟩ := HBG.out.resolve_left (by omega)
          obtain ⟨x, hx⟩ : ∃ x, y0.failed[k]? = some x := ⟨_, List.getElem?_eq_getElem hlt⟩
          have hx32 : x < 32 := by
            have := g.fin x (List.mem_of_getElem? hx)
            rw [HN5.out] at this
            exact this
          have HCELL : Hid ((nv y0.failed)[k]? = some (.int .i64 (x : Int))) := Lib.hid (by simp [nv, hx])
          have cc := own_cells hW.b k _ HCELL.out
          have HHC := Lib.hid (held_calls hW.yard (fun b hb => by
            have h1 := HALL.out b (List.mem_append_right _ hb)
            have := pow_pos' b.o
            omega) (by have := g.tlen; omega) (x : Int))
          have g1 : decide ((x : Int) < 0) = false := by rw [decide_eq_false_iff_not]; omega
          have g2 : decide ((x : Int) > 31) = false := by rw [decide_eq_false_iff_not]; omega
          have x0 : (0 : Int) ≤ (x : Int) := by omega
          have x1 : (x : Int) < 32 := by omega
          have HX := Lib.hid hx
          have HW := Lib.hid hW
          clear hx hW
          go_wp2_with fail
          refine HHC.out.mono ?_
          rintro e wh ⟨rfl, hbh⟩
          have HWh := Lib.hid (HW.out.later hbh)
          clear HW hbh HHC cc
          obtain ⟨r, hr⟩ : ∃ r, r = heldY y0.taken (x : Int) := ⟨_, rfl⟩
          rw [← hr]
          have HR := Lib.hid hr
          clear hr
          obtain ⟨go, rfl⟩ : ∃ go, go = gk := ⟨_, rfl⟩
          cases r with
          | none =>
            unfold hvV
            have HWa := Lib.hid (HWh.out.later (below_alloc' wh (.cells #[.int .i64 0, .int .i64 0] 31)))
            have cc := own_cells HWa.out.b k _ HCELL.out
            have hcell := HWa.out.cell x hx32
            have hfz := HWa.out.frozen x
            have f0 := two_frozen (box_heap wh #[.int .i64 0, .int .i64 0] 31) 0
            obtain ⟨C, hC⟩ : ∃ C, C = cnt (lf ++ y0.taken) x + bn y0 (y0.failed.take k) x := ⟨_, rfl⟩
            rw [← hC] at hcell
            have hCl : C ≤ 4096 := by
              have h1 : cnt (lf ++ y0.taken) x ≤ (lf ++ y0.taken).length := List.countP_le_length
              have h2 : bn y0 (y0.failed.take k) x ≤ (y0.failed.take k).length := List.countP_le_length
              rw [List.length_append] at h1
              rw [List.length_take] at h2
              omega
            have HN := Lib.hid (HWa.out.bump (d := fun v => cnt (lf ++ y0.taken) v + bn y0 (y0.failed.take (k + 1)) v) x (C + 1) (fun v => by
              rw [List.take_add_one, HX.out]
              unfold bn
              rw [List.countP_append]
              have hl : List.countP (lone y0 v) (some x).toList = if v = x then 1 else 0 := by
                simp only [Option.toList_some, List.countP_singleton]
                unfold lone
                rw [← HR.out]
                by_cases e : v = x
                · subst e; simp
                · simp [e, Ne.symm e]
              rw [hl]
              by_cases e : v = x
              · subst e; rw [if_pos rfl, if_pos rfl, hC]; unfold bn; omega
              · rw [if_neg e, if_neg e]; rfl))
            clear hC HWa HWh
            go_wp2_with fail
            rw [show (k : Int) + 1 = ((k + 1 : Nat) : Int) by omega, show (C : Int) + 1 = ((C + 1 : Nat) : Int) by omega]
            go_roundg (go - 1)
            case measure => omega
            case rel => exact ⟨k + 1, rfl, by omega, by omega, HN.out⟩
          | some b =>
            unfold hvV
            have f0 := two_frozen (box_heap wh #[.int .i64 (b.s : Int), .int .i64 (b.o : Int)] 31) 0
            have HN := Lib.hid ((HWh.out.later (below_alloc' wh (.cells #[.int .i64 (b.s : Int), .int .i64 (b.o : Int)] 31))).congr (d := fun v => cnt (lf ++ y0.taken) v + bn y0 (y0.failed.take (k + 1)) v) (fun v => by
              rw [List.take_add_one, HX.out]
              unfold bn
              rw [List.countP_append]
              have hl : List.countP (lone y0 v) (some x).toList = 0 := by
                simp only [Option.toList_some, List.countP_singleton]
                unfold lone
                rw [← HR.out]
                simp
              rw [hl]
              rfl))
            clear HWh
            go_wp2_with fail
            rw [show (k : Int) + 1 = ((k + 1 : Nat) : Int) by omega]
            go_roundg (go - 1)
            case measure => omega
            case rel => exact ⟨k + 1, rfl, by omega, by omega, HN.out⟩
        · have hone : ∀ v, v < 32 → cnt (lf ++ y0.taken) v + bn y0 (y0.failed.take k) v = 1 := fun v hv => by
            rw [show y0.failed.take k = y0.failed from List.take_of_length_le (by omega)]
            have := whole g HLF.out (w := v) (by rw [HN5.out]; exact hv)
            unfold cnt at this ⊢
            rw [List.countP_append]
            exact this
          have HONE := Lib.hid hone
          have qn2 : ¬ ((k : Int) < (y0.failed.length : Int)) := by omega
          have HW := Lib.hid hW
          clear hone hW hlt
          go_wp2_with fail
          obtain ⟨wo, rfl⟩ : ∃ wo : World, wo = wr := ⟨_, rfl⟩
          go_loopg [14] 40 (fun g s14 wr => ∃ (i : Nat), s14 = .int .i64 (i : Int) ∧ i ≤ 32 ∧ 32 - i ≤ g ∧ wr = wo)
          case atStart => exact ⟨0, rfl, by omega, by omega, rfl⟩
          case round =>
            obtain ⟨v, rfl, hv, hvg, rfl⟩ := hrel
            by_cases hlt : v < 32
            · have v0 : (0 : Int) ≤ (v : Int) := by omega
              have v1 : (v : Int) < 32 := by omega
              have hcell := HW.out.cell v hlt
              rw [HONE.out v hlt] at hcell
              go_wp2_with fail
              rw [show (v : Int) + 1 = ((v + 1 : Nat) : Int) by omega]
              go_roundg (gk - 1)
              case measure => omega
              case rel => exact ⟨v + 1, rfl, by omega, by omega, rfl⟩
            · have qn3 : ¬ ((v : Int) < 32) := by omega
              clear hlt
              go_wp2_with fail
              obtain ⟨wu, hwu⟩ : ∃ wu : World, wu = wr := ⟨_, rfl⟩
              rw [← hwu]
              have HW2 : Hid (WSt w wu yb c1 NB y0 (Value.slice fa lf.length fc) lf (Value.slice ta y0.taken.length tc) (Value.slice ba y0.failed.length bc') (fun v => cnt (lf ++ y0.taken) v + bn y0 (y0.failed.take k) v)) := by rw [hwu]; exact HW
              clear hwu HW
              go_loopg [15] 1500 (fun g s15 wr => ∃ (i q : Nat), s15 = .int .i64 (i : Int) ∧ 1 ≤ i ∧ i ≤ 1 + lf.length ∧ 1 + lf.length - i ≤ g ∧ wr = wu.drewN q)
              case atStart => exact ⟨1, 0, rfl, by omega, by omega, by omega, rfl⟩
              case round =>
                obtain ⟨j, q, rfl, hj1, hjl, hjg, hwr⟩ := hrel
                have HWR := Lib.hid hwr
                clear hwr
                by_cases hlt : j < lf.length
                · obtain ⟨fb, rfl⟩ := HFG.out.resolve_left (by omega)
                  obtain ⟨b, hb⟩ : ∃ b, lf[j]? = some b := ⟨_, List.getElem?_eq_getElem hlt⟩
                  obtain ⟨a, ha⟩ : ∃ a, lf[j - 1]? = some a := ⟨_, List.getElem?_eq_getElem (by omega)⟩
                  have hob := (HALL.out b (List.mem_append_left _ (List.mem_of_getElem? hb)))
                  have hoa := (HALL.out a (List.mem_append_left _ (List.mem_of_getElem? ha)))
                  have hma := (HLF.out.mem a).1 (List.mem_of_getElem? ha)
                  have hmb := (HLF.out.mem b).1 (List.mem_of_getElem? hb)
                  obtain ⟨e1, e2⟩ := OwnB.two HW2.out.f rfl j b hb
                  obtain ⟨e3, e4⟩ := OwnB.two HW2.out.f rfl (j - 1) a ha
                  obtain ⟨bs, bo⟩ := b
                  obtain ⟨az, ao⟩ := a
                  simp only at hob hoa hma hmb e1 e2 e3 e4
                  have c1 : wr.cell? ⟨fb, j * 2, none⟩ = some (.int .i64 (bs : Int)) := by rw [HWR.out]; exact e1
                  have c2 : wr.cell? ⟨fb, j * 2 + 1, none⟩ = some (.int .i64 (bo : Int)) := by rw [HWR.out]; exact e2
                  have c3 : wr.cell? ⟨fb, (j - 1) * 2, none⟩ = some (.int .i64 (az : Int)) := by rw [HWR.out]; exact e3
                  have c4 : wr.cell? ⟨fb, (j - 1) * 2 + 1, none⟩ = some (.int .i64 (ao : Int)) := by rw [HWR.out]; exact e4
                  have j0 : (0 : Int) ≤ (j : Int) := by omega
                  have j1 : (j : Int) < (lf.length : Int) := by omega
                  have j2 : (0 : Int) ≤ (j : Int) - 1 := by omega
                  have j3 : (j : Int) - 1 < (lf.length : Int) := by omega
                  have j4 : ((j : Int) - 1).toNat = j - 1 := by omega
                  by_cases heq : bo = ao
                  · subst heq
                    obtain ⟨P, hP⟩ : ∃ P, P = 2 ^ bo := ⟨_, rfl⟩
                    have hsh := shl_one bo P (by omega) hP
                    have hcv : IntKind.u64.wrap (bo : Int) = (bo : Int) := by rw [IntKind.wrap_u64]; omega
                    have hPl : P ≤ 32 := by omega
                    obtain ⟨X, hX⟩ : ∃ X, X = sib az bo := ⟨_, rfl⟩
                    have hx : bits .xor .i64 (az : Int) (P : Int) = (X : Int) := by rw [xor_i64 az P (by omega) (by omega), hX, hP]; rfl
                    have hne : ((bs : Int) == (X : Int)) = false := by
                      rw [beq_eq_false_iff_ne]
                      intro e
                      have e' : bs = X := by omega
                      rw [e', hX] at hmb
                      exact no_pair g hma hmb
                    obtain ⟨ob, hob2⟩ : ∃ ob : Int, (bo : Int) = ob := ⟨_, rfl⟩
                    rw [hob2] at hsh hcv c2 c4
                    clear hob hoa hma hmb e1 e2 e3 e4 hb ha hP hX hob2 hlt
                    go_wp2_with fail
                    go_quiet (fail)
                    go_wp2_with fail
                    rw [show (j : Int) + 1 = ((j + 1 : Nat) : Int) by omega]
                    go_roundg (gk - 1)
                    case measure => omega
                    case rel => exact ⟨j + 1, q + nq, rfl, by omega, by omega, by omega, by rw [HWR.out, World.drewN_drewN]⟩
                  · have heq2 : ((bo : Int) == (ao : Int)) = false := by rw [beq_eq_false_iff_ne]; omega
                    clear hob hoa hma hmb e1 e2 e3 e4 hb ha hlt
                    go_wp2_with fail
                    go_quiet (fail)
                    go_wp2_with fail
                    rw [show (j : Int) + 1 = ((j + 1 : Nat) : Int) by omega]
                    go_roundg (gk - 1)
                    case measure => omega
                    case rel => exact ⟨j + 1, q + nq, rfl, by omega, by omega, by omega, by rw [HWR.out, World.drewN_drewN]⟩
                · have HKN := Lib.hid (known_calls wr)
                  have qn4 : ¬ ((j : Int) < (lf.length : Int)) := by omega
                  clear hlt
                  go_wp2_with fail
                  refine HKN.out.mono ?_
                  rintro e wz ⟨rfl, hbz⟩
                  have hbw : Below w.heap.size w wr := by rw [HWR.out]; exact HW2.out.below.trans ((below_drewN' wu q).mono HW2.out.below.size)
                  go_wp2_with fail
                  go_ret
                  exact ⟨rfl, hbw.trans (hbz.mono hbw.size)⟩
end Go.Proofs.Ythmgnfkjkdmdoaa
