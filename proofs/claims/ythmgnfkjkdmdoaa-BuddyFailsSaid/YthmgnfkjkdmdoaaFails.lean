/- The law BuddyFails. -/
import Derived.Test.YthmgnfkjkdmdoaaSide
import Derived.Test.YthmgnfkjkdmdoaaApp
import Derived.Deep.QuietTactic
import Derived.BigQuiet
set_option linter.unusedSimpArgs false
set_option linter.unusedVariables false
namespace Go.Proofs.Ythmgnfkjkdmdoaa
open Go Go.RowKit Bud

theorem hb_grown {B : Nat} {w w' : World} {r : Option Nat} (h : w.grownBy w' r) (hr : ∀ k, r = some k → B ≤ k) (hB : B ≤ w.heap.size := by omega) : Below B w w' := by
  refine ⟨h.os, h.tape, h.output, h.size, fun k hk => h.block k (by omega) fun e => ?_⟩
  have := hr k e.symm
  omega

theorem failI_twice {y : Yd} {k : Nat} (hk : k ∈ y.failed) (hl : k < 2 ^ y.n) : failI y (k : Int) = (y, 30) := by
  unfold failI
  rw [if_pos (isY_iff.2 ⟨by omega, by omega⟩), Int.toNat_natCast]
  unfold failY
  rw [if_pos hk]
theorem healI_some {y : Yd} {k : Nat} (hk : k ∈ y.failed) (hl : k < 2 ^ y.n) : healI y (k : Int) = ((healY y k).1, 0) := by
  unfold healI
  rw [if_pos (isY_iff.2 ⟨by omega, by omega⟩), Int.toNat_natCast, ← (heal_failed y k hk).2]
theorem healI_none {y : Yd} {k : Nat} (hk : k ∉ y.failed) (hl : k < 2 ^ y.n) : healI y (k : Int) = (y, 4) := by
  unfold healI
  rw [if_pos (isY_iff.2 ⟨by omega, by omega⟩), Int.toNat_natCast]
  unfold healY
  rw [if_neg hk]
theorem same_true {w : World} {v1 v2 : Value} {l : List Blk} (h1 : OwnB w v1 l) (h2 : OwnB w v2 l) (hl : l.length ≤ 1073741824) :
    Calls Try.prog 14 #[v1, v2] w fun e w' => e = .returned (.bool true) ∧ Below w.heap.size w w' := by
  refine (same_calls h1 h2 hl hl).mono ?_
  rintro e w' ⟨rfl, q, rfl⟩
  exact ⟨by simp, below_drewN' _ _⟩
theorem sameInts_true {w : World} {v1 v2 : Value} {l : List Nat} (h1 : OwnN w v1 l) (h2 : OwnN w v2 l) (hl : l.length ≤ 1073741824) :
    Calls Try.prog 16 #[v1, v2] w fun e w' => e = .returned (.bool true) ∧ Below w.heap.size w w' := by
  refine (sameInts_calls h1 h2 hl hl).mono ?_
  rintro e w' ⟨rfl, q, rfl⟩
  exact ⟨by simp, below_drewN' _ _⟩

theorem fail_twice_calls {w : World} {yb : Nat} {cs : Array Value} {y : Yd} (h : YardAt w yb cs y) (g : Good y) {k : Nat} (hk : k ∈ y.failed) (hl : k < 2 ^ y.n) :
    Calls Try.prog 13 #[.pointer (some ⟨yb, 0, none⟩), .int .i64 (k : Int)] w fun e w' => e = .returned (.int .i64 30) ∧ ∃ cs', YardAt w' yb cs' y ∧ Step w yb cs w' cs' := by
  have := fail_calls h g (k : Int)
  rwa [failI_twice hk hl] at this
theorem heal_some_calls {w : World} {yb : Nat} {cs : Array Value} {y : Yd} (h : YardAt w yb cs y) (g : Good y) {k : Nat} (hk : k ∈ y.failed) (hl : k < 2 ^ y.n) :
    Calls Try.prog 15 #[.pointer (some ⟨yb, 0, none⟩), .int .i64 (k : Int)] w fun e w' => e = .returned (.int .i64 0) ∧ ∃ cs', YardAt w' yb cs' (healY y k).1 ∧ Step w yb cs w' cs' := by
  have := heal_calls h g (k : Int)
  rwa [healI_some hk hl] at this
theorem heal_none_calls {w : World} {yb : Nat} {cs : Array Value} {y : Yd} (h : YardAt w yb cs y) (g : Good y) {k : Nat} (hk : k ∉ y.failed) (hl : k < 2 ^ y.n) :
    Calls Try.prog 15 #[.pointer (some ⟨yb, 0, none⟩), .int .i64 (k : Int)] w fun e w' => e = .returned (.int .i64 4) ∧ ∃ cs', YardAt w' yb cs' y ∧ Step w yb cs w' cs' := by
  have := heal_calls h g (k : Int)
  rwa [healI_none hk hl] at this

/-- All that stays beside the yard. -/
structure Rest (w : World) (B : Nat) (wr : World) (yb : Nat) (cs : Array Value) (vf : Value) (lf : List Blk) (vb : Value) (lb : List Nat) (vt : Value) (lt : List Blk) (vd : Value) (n : Nat) (xs : List Value) : Prop where
  fresh : ∀ k, foot yb cs k → w.heap.size ≤ k
  below : Below w.heap.size w wr
  sf : SideB wr yb cs vf lf
  sb : SideN wr yb cs vb lb
  st : SideB wr yb cs vt lt
  d : wr.ownsRow B 3 1 vd n xs
  off : ∀ k, vd.ownBlock = some k → ¬ foot yb cs k
theorem Rest.step {w : World} {B : Nat} {wr wq : World} {yb : Nat} {cs cq : Array Value} {vf : Value} {lf : List Blk} {vb : Value} {lb : List Nat} {vt : Value} {lt : List Blk} {vd : Value} {n : Nat} {xs : List Value}
    (h : Rest w B wr yb cs vf lf vb lb vt lt vd n xs) (s : Step wr yb cs wq cq) : Rest w B wq yb cq vf lf vb lb vt lt vd n xs := by
  obtain ⟨h1, h2⟩ := fresh_step h.below h.fresh s
  exact ⟨h1, h2, h.sf.step s, h.sb.step s, h.st.step s, own_keeps h.d s.keeps h.off, fun k hk => s.notFoot (h.d.lt k hk).2 (h.off k hk)⟩
theorem Rest.later {w : World} {B : Nat} {wr wq : World} {yb : Nat} {cs : Array Value} {vf : Value} {lf : List Blk} {vb : Value} {lb : List Nat} {vt : Value} {lt : List Blk} {vd : Value} {n : Nat} {xs : List Value}
    (h : Rest w B wr yb cs vf lf vb lb vt lt vd n xs) (s : Below wr.heap.size wr wq) : Rest w B wq yb cs vf lf vb lb vt lt vd n xs := h.step (Step.of_below s)

set_option maxHeartbeats 16000000 in
set_option maxRecDepth 100000 in
theorem fails_law (w : World) (v1 : Value) (n : Nat) (A : Nat → Int × Int × Int) (h1 : ActsV w v1 n A) (ga : Option Addr) (m gc : Nat) (G : Nat → Int) (h2 : IntsV w ga m G) :
    Calls Try.prog 4 #[v1, .slice ga m gc] w fun e w' => e = .returned (.bool true) ∧ Below w.heap.size w w' := by
  obtain ⟨hm, hgs⟩ := h2
  have hmx : m ≤ 9223372036854775807 := hm
  have hya := yard_any h1
  have g := run_good A (min n 60)
  have hn5 := run_n A (min n 60)
  generalize runY A (min n 60) = y0 at *
  have HY := Lib.hid hya
  have HGS := Lib.hid hgs
  have HN5 := Lib.hid hn5
  clear h1 hm hgs hya hn5
  go_enter Try.func4, Try.ntmps4
  go_wp2_with fail
  refine HY.out.mono ?_
  rintro e w1 ⟨yb, c1, rfl, hy1, hf1, hb1⟩
  have HFR := Lib.hid (free_list hy1 g)
  clear HY
  go_wp2_with fail
  refine HFR.out.mono ?_
  rintro e w2 ⟨vfree, lfree, rfl, hfl, hv2, hfv2, hb2⟩
  have hs2 := SideB.new hy1 hv2 hfv2
  have hy2 := hy1.below hb2
  have hbw2 : Below w.heap.size w w2 := hb1.trans (hb2.mono hb1.size)
  have HFL := Lib.hid hfl
  have HFD := Lib.hid (failed_calls hy2 (by have := g.flen; omega))
  clear HFR hv2 hfv2 hfl hb2 hy1 hb1
  go_wp2_with fail
  refine HFD.out.mono ?_
  rintro e w3 ⟨vbad, rfl, hv3, hfv3, hb3⟩
  have hsb3 := SideN.new hy2 hv3 hfv3
  have hsf3 := hs2.below hb3
  have hy3 := hy2.below hb3
  have hbw3 : Below w.heap.size w w3 := hbw2.trans (hb3.mono hbw2.size)
  have HTK := Lib.hid (taken_calls hy3 (by have := g.tlen; omega))
  clear HFD hv3 hfv3 hb3 hs2 hy2 hbw2
  go_wp2_with fail
  refine HTK.out.mono ?_
  rintro e w4 ⟨vtk, rfl, hv4, hfv4, hb4⟩
  have hst4 := SideB.new hy3 hv4 hfv4
  have hsb4 := hsb3.below hb4
  have hsf4 := hsf3.below hb4
  have hy4 := hy3.below hb4
  have hbw4 : Below w.heap.size w w4 := hbw3.trans (hb4.mono hbw3.size)
  have HF1 := Lib.hid hf1
  have hbw4s : Hid (w.heap.size ≤ w4.heap.size) := Lib.hid hbw4.size
  clear HTK hv4 hfv4 hb4 hsb3 hsf3 hy3 hbw3 hf1
  go_wp2_with fail
  go_loopg [9, 10] 20 (fun g s9 s10 wr => ∃ (i : Nat) (y : Yd) (cs : Array Value) (S : List Nat), s10 = .int .i64 (i : Int) ∧ i ≤ m ∧ i ≤ 20 ∧ 20 - i ≤ g ∧ YardAt wr yb cs y ∧ Good y ∧ Near y0 y S ∧ S.length ≤ i ∧ (∀ k, foot yb cs k → w.heap.size ≤ k) ∧ Below w.heap.size w wr ∧
    SideB wr yb cs vfree lfree ∧ SideN wr yb cs vbad y0.failed ∧ SideB wr yb cs vtk y0.taken ∧ wr.ownsRow w4.heap.size 3 1 s9 S.length (nv S) ∧ (∀ k, s9.ownBlock = some k → ¬ foot yb cs k) ∧ w4.heap.size ≤ wr.heap.size)
  case atStart => exact ⟨0, y0, c1, [], rfl, by omega, by omega, by omega, hy4, g, Near.refl _, by simp, HF1.out, hbw4, hsf4, hsb4, hst4, ⟨rfl, .inl ⟨rfl, rfl⟩⟩, fun k hk => by simp [Value.ownBlock] at hk, Nat.le_refl _⟩
  case round =>
    have HB4 : Hid ((∀ k, vfree.ownBlock = some k → k < w4.heap.size) ∧ (∀ k, vbad.ownBlock = some k → k < w4.heap.size) ∧ (∀ k, vtk.ownBlock = some k → k < w4.heap.size)) := Lib.hid ⟨fun k hk => (hsf4.own.lt k hk).2, fun k hk => (hsb4.own.lt k hk).2, fun k hk => (hst4.own.lt k hk).2⟩
    clear hy4 hbw4 hsf4 hsb4 hst4 HF1
    obtain ⟨i, y, cs, S, rfl, him, hi20, hgk, hy, gy, hnr, hSl, hf, hbw, hsf, hsb, hst, hdid, hdo, hw4⟩ := hrel
    have HF := Lib.hid hf
    have HDO := Lib.hid hdo
    clear hf hdo
    by_cases hlt : i < m ∧ i < 20
    · obtain ⟨hl1, hl2⟩ := hlt
      have q1 : decide ((i : Int) < (m : Int)) = true := by rw [decide_eq_true_eq]; omega
      have q2 : decide ((i : Int) < 20) = true := by rw [decide_eq_true_eq]; omega
      have i0 : (0 : Int) ≤ (i : Int) := by omega
      have i1 : (i : Int) < (m : Int) := by omega
      obtain ⟨a, rfl, hI⟩ := HGS.out.resolve_left (by omega)
      have e0 := hI i hl1
      have HE := Lib.hid e0
      replace e0 := (hbw.cell (World.block_lt_of_cell? w _ e0)).trans e0
      have hfc := fail_calls hy gy (G i)
      have hcase := failI_cases (y := y) (G i)
      obtain ⟨r, hr⟩ : ∃ r, r = failI y (G i) := ⟨_, rfl⟩
      rw [← hr] at hfc hcase
      have HCASE := Lib.hid hcase
      have HR := Lib.hid hr
      have HFC := Lib.hid hfc
      obtain ⟨x, hx⟩ : ∃ x, x = G i := ⟨_, rfl⟩
      rw [← hx] at e0
      have HX := Lib.hid hx
      clear hfc hcase hr hI hx
      go_wp2_with fail
      rw [HX.out]
      refine HFC.out.mono ?_
      rintro e w5 ⟨rfl, c5, hy5, hst5⟩
      have hsf5 := hsf.step hst5
      have hsb5 := hsb.step hst5
      have hst5' := hst.step hst5
      obtain ⟨hf5, hb5⟩ := fresh_step hbw HF.out hst5
      have HF5 := Lib.hid hf5
      have hdid5 : w5.ownsRow w4.heap.size 3 1 u9 S.length (nv S) := own_keeps hdid hst5.keeps HDO.out
      have HDO5 : Hid (∀ k, u9.ownBlock = some k → ¬ foot yb c5 k) := Lib.hid fun k hk => hst5.notFoot (hdid.lt k hk).2 (HDO.out k hk)
      have hw45 : w4.heap.size ≤ w5.heap.size := Nat.le_trans hw4 hst5.keeps.size
      rcases HCASE.out with ⟨ha, hb⟩ | ⟨k, hk1, hk2, hk3, hk4, hk5⟩
      · have hbz : ¬ (r.2 = 0) := hb
        have hbz2 : (r.2 == 0) = false := by rw [beq_eq_false_iff_ne]; exact hb
        rw [ha] at hy5
        clear hf5 hb HFC HCASE
        go_wp2_with fail
        rw [show (i : Int) + 1 = ((i + 1 : Nat) : Int) by omega]
        go_roundg (gk - 1)
        case measure => omega
        case rel => exact ⟨i + 1, y, c5, S, rfl, by omega, by omega, by omega, hy5, gy, hnr, by omega, HF5.out, hb5, hsf5, hsb5, hst5', hdid5, HDO5.out, hw45⟩
      · have hr0 : r.2 = 0 := hk5
        have hr1 : r.1 = (failY y k).1 := by rw [hk4]
        rw [hr1] at hy5
        rw [hr0]
        have gy6 : Good (failY y k).1 := fail_good gy k hk2
        have hnr6 := hnr.fail hk2 hk3
        have hmem : k ∈ (failY y k).1.failed := by rw [(fail_failed y k hk3).1, mem_insK]; exact .inl rfl
        have hxk : x = (k : Int) := by rw [HX.out]; exact hk1
        have e5 : w5.cell? (a.add i) = some (.int .i64 (k : Int)) := by
          rw [← hxk, HX.out]; exact (hb5.cell (World.block_lt_of_cell? w _ HE.out)).trans HE.out
        have HK := Lib.hid hxk
        generalize (failY y k).1 = y6 at *
        clear hf5 HFC HCASE hr0 hr1 hk4 hk5 hxk hsf hsb hst hdid hy hbw e0
        obtain ⟨i0', hi0, hz0, hz1, hz2⟩ := info_parts info3
        obtain ⟨v', W6, hrun, hown6, hgr6, _⟩ := run_append_own (P := Try.prog) (w5.alloc (.cells #[.int .i64 (k : Int)] 3)) w4.heap.size 28 28 3 i0' (.int .i64 0) 1 8 Try.underlying28 hi0 hz0 hz1 hz2 rfl (by omega)
          u9 S.length (nv S) (hdid5.alloc _) ⟨w5.heap.size, 0, none⟩ 1 1 [.int .i64 (k : Int)] rfl (fun j u hu => by
            match j, hu with
            | 0, hu => rw [← hu]; exact box_cell w5 _ _ 0) (by intro u hu; simp at hu; subst hu; rfl) (by simp [maxLen]; omega) (by omega) (by simp; omega)
        have hat := append_at (P := Try.prog) Try.underlying28 hi0 hz0 (n := S.length) (xs := nv S) (by rw [hz1]; exact hdid5.alloc (.cells #[.int .i64 (k : Int)] 3)) (a := ⟨w5.heap.size, 0, none⟩) (m := 1) (c := 1) (news := [.int .i64 (k : Int)]) (by rw [hz1]; rfl) (fun j u hu => by
            match j, hu with
            | 0, hu => rw [← hu]; exact box_cell w5 _ _ 0) (by intro u hu; simp at hu; subst hu; rfl) (by omega) (by simp [maxLen]; omega) (by rw [hz2]; omega) hrun
        have hkp : Keeps (fun b => some b = u9.ownBlock) (w5.alloc (.cells #[.int .i64 (k : Int)] 3)) W6 := Keeps.of_grown hgr6
        have hdl := fun b (hb : u9.ownBlock = some b) => hdid5.lt b hb
        have hy6 : YardAt W6 yb c5 y6 := (hy5.alloc _).keep hkp (fun b hb e => HDO5.out b e.symm hb)
        have hsf6 : SideB W6 yb c5 vfree lfree := ⟨own_keeps (hsf5.below (below_alloc' w5 _)).own hkp (fun b hb e => by have := HB4.out.1 b hb; have := hdl b e.symm; omega), hsf5.off⟩
        have hsb6 : SideN W6 yb c5 vbad y0.failed := ⟨own_keeps (hsb5.below (below_alloc' w5 _)).own hkp (fun b hb e => by have := HB4.out.2.1 b hb; have := hdl b e.symm; omega), hsb5.off⟩
        have hst6 : SideB W6 yb c5 vtk y0.taken := ⟨own_keeps (hst5'.below (below_alloc' w5 _)).own hkp (fun b hb e => by have := HB4.out.2.2 b hb; have := hdl b e.symm; omega), hst5'.off⟩
        have hdo6 : ∀ b, v'.ownBlock = some b → ¬ foot yb c5 b := fun b hb hf => by
          rcases hat with e | e
          · exact HDO5.out b (e.symm.trans hb) hf
          · rw [hb] at e
            have := hy5.foot_lt b hf
            simp at e
            omega
        have HRUN := Lib.hid hrun
        clear hi0 hz0 hz1 hz2 hrun hat hkp hdl
        go_wp2_with (refine Row.list_append HRUN.out rfl rfl rfl rfl ?_)
        have HFR6 := Lib.hid (free_list hy6 gy6)
        have HD6 := Lib.hid hown6
        have HB6 : Hid (Below w.heap.size w W6) := Lib.hid ((hb5.alloc hb5.size (.cells #[.int .i64 (k : Int)] 3)).trans (hb_grown hgr6 (fun b hb => by have := hdid5.lt b hb; have := hbw4s.out; omega) (by have := hbw4s.out; simp; omega)))
        have hW6 : w4.heap.size ≤ W6.heap.size := Nat.le_trans hw45 (Nat.le_trans (by simp) hgr6.size)
        clear hown6 hdid5 hy5 hst5 hsf5 hsb5 hst5' hgr6
        refine HFR6.out.mono ?_
        rintro e w7 ⟨vf, lf, rfl, hlf, hvf, hvf', hb7⟩
        have hy7 := hy6.below hb7
        have hsf7 := hsf6.below hb7
        have hsb7 := hsb6.below hb7
        have hst7 := hst6.below hb7
        have hd7 := own_below HD6.out hb7
        have hbw7 := HB6.out.trans (hb7.mono HB6.out.size)
        have hw7 : w4.heap.size ≤ w7.heap.size := Nat.le_trans hW6 hb7.size
        have hfl : lf.length ≤ 1024 := hlf.len gy6
        have HVF := Lib.hid hvf
        have HNF : Hid (∀ b ∈ lf, ¬ (b.s ≤ k ∧ k < b.s + 2 ^ b.o)) := Lib.hid fun b hb => gy6.failed_not_free hmem hlf hb
        have HO5 : Hid (∀ b ∈ lf, b.o ≤ 5 ∧ b.s < 32) := Lib.hid fun b hb => by
          have h1 := gy6.free_in ((hlf.mem b).1 hb)
          have h2 := hnr6.n.trans HN5.out
          have h3 := pow_pos' b.o
          rw [h2] at h1
          omega
        obtain ⟨fa, fc, rfl, hfn, hfc, hfg⟩ := own_form hvf
        have HFG := Lib.hid hfg
        clear HFR6 HD6 HB6 hvf hvf' hb7 hy6 hsf6 hsb6 hst6 hfg hfn hfc hb5
        go_wp2_with fail
        obtain ⟨go, rfl⟩ : ∃ go, go = gk := ⟨_, rfl⟩
        obtain ⟨wo, rfl⟩ : ∃ wo : World, wo = wr := ⟨_, rfl⟩
        go_loopg [12] 1025 (fun g s12 wr => ∃ (t q : Nat), s12 = .int .i64 (t : Int) ∧ t ≤ lf.length ∧ lf.length - t ≤ g ∧ wr = w7.drewN q)
        case atStart => exact ⟨0, 0, rfl, by omega, by omega, rfl⟩
        case round =>
          obtain ⟨t, q, rfl, htl, htk, hwr⟩ := hrel
          have HWR := Lib.hid hwr
          clear hwr
          by_cases hlt : t < lf.length
          · have q1 : decide ((t : Int) < (lf.length : Int)) = true := by rw [decide_eq_true_eq]; omega
            obtain ⟨fb, rfl⟩ := HFG.out.resolve_left (by omega)
            obtain ⟨b, hb⟩ : ∃ b, lf[t]? = some b := ⟨_, List.getElem?_eq_getElem hlt⟩
            obtain ⟨e1, e2⟩ := OwnB.two HVF.out rfl t b hb
            have hbm := List.mem_of_getElem? hb
            have hnf := HNF.out b hbm
            have hbo := HO5.out b hbm
            obtain ⟨bs, bo⟩ := b
            simp only at e1 e2 hnf hbo
            have c1 : wr.cell? ⟨fb, t * 2, none⟩ = some (.int .i64 (bs : Int)) := by rw [HWR.out]; exact e1
            have c2 : wr.cell? ⟨fb, t * 2 + 1, none⟩ = some (.int .i64 (bo : Int)) := by rw [HWR.out]; exact e2
            have c3 : wr.cell? (a.add i) = some (.int .i64 (k : Int)) := by
              rw [HWR.out]
              show w7.cell? (a.add i) = _
              rw [hbw7.cell (World.block_lt_of_cell? w _ HE.out), HE.out, hk1]
            have t0 : (0 : Int) ≤ (t : Int) := by omega
            have t1 : (t : Int) < (lf.length : Int) := by omega
            clear e1 e2 hb hbm
            by_cases hge : bs ≤ k
            · have g1 : decide ((k : Int) ≥ (bs : Int)) = true := by rw [decide_eq_true_eq]; omega
              obtain ⟨hbo1, hbo2⟩ := hbo
              rcases (by omega : bo = 0 ∨ bo = 1 ∨ bo = 2 ∨ bo = 3 ∨ bo = 4 ∨ bo = 5) with rfl | rfl | rfl | rfl | rfl | rfl
              · have g2 : decide ((k : Int) < (bs : Int) + 1) = false := by rw [decide_eq_false_iff_not]; omega
                go_wp2_with fail
                go_quiet (fail)
                go_wp2_with fail
                rw [show (t : Int) + 1 = ((t + 1 : Nat) : Int) by omega]
                go_roundg (gk - 1)
                case measure => omega
                case rel => exact ⟨t + 1, q + nq, rfl, by omega, by omega, by rw [HWR.out, World.drewN_drewN]⟩
              · have g2 : decide ((k : Int) < (bs : Int) + 2) = false := by rw [decide_eq_false_iff_not]; omega
                go_wp2_with fail
                go_quiet (fail)
                go_wp2_with fail
                rw [show (t : Int) + 1 = ((t + 1 : Nat) : Int) by omega]
                go_roundg (gk - 1)
                case measure => omega
                case rel => exact ⟨t + 1, q + nq, rfl, by omega, by omega, by rw [HWR.out, World.drewN_drewN]⟩
              · have g2 : decide ((k : Int) < (bs : Int) + 4) = false := by rw [decide_eq_false_iff_not]; omega
                go_wp2_with fail
                go_quiet (fail)
                go_wp2_with fail
                rw [show (t : Int) + 1 = ((t + 1 : Nat) : Int) by omega]
                go_roundg (gk - 1)
                case measure => omega
                case rel => exact ⟨t + 1, q + nq, rfl, by omega, by omega, by rw [HWR.out, World.drewN_drewN]⟩
              · have g2 : decide ((k : Int) < (bs : Int) + 8) = false := by rw [decide_eq_false_iff_not]; omega
                go_wp2_with fail
                go_quiet (fail)
                go_wp2_with fail
                rw [show (t : Int) + 1 = ((t + 1 : Nat) : Int) by omega]
                go_roundg (gk - 1)
                case measure => omega
                case rel => exact ⟨t + 1, q + nq, rfl, by omega, by omega, by rw [HWR.out, World.drewN_drewN]⟩
              · have g2 : decide ((k : Int) < (bs : Int) + 16) = false := by rw [decide_eq_false_iff_not]; omega
                go_wp2_with fail
                go_quiet (fail)
                go_wp2_with fail
                rw [show (t : Int) + 1 = ((t + 1 : Nat) : Int) by omega]
                go_roundg (gk - 1)
                case measure => omega
                case rel => exact ⟨t + 1, q + nq, rfl, by omega, by omega, by rw [HWR.out, World.drewN_drewN]⟩
              · have g2 : decide ((k : Int) < (bs : Int) + 32) = false := by rw [decide_eq_false_iff_not]; omega
                go_wp2_with fail
                go_quiet (fail)
                go_wp2_with fail
                rw [show (t : Int) + 1 = ((t + 1 : Nat) : Int) by omega]
                go_roundg (gk - 1)
                case measure => omega
                case rel => exact ⟨t + 1, q + nq, rfl, by omega, by omega, by rw [HWR.out, World.drewN_drewN]⟩
            · have g1 : decide ((k : Int) ≥ (bs : Int)) = false := by rw [decide_eq_false_iff_not]; omega
              go_wp2_with fail
              go_quiet (fail)
              go_wp2_with fail
              rw [show (t : Int) + 1 = ((t + 1 : Nat) : Int) by omega]
              go_roundg (gk - 1)
              case measure => omega
              case rel => exact ⟨t + 1, q + nq, rfl, by omega, by omega, by rw [HWR.out, World.drewN_drewN]⟩
          · have q1 : decide ((t : Int) < (lf.length : Int)) = false := by rw [decide_eq_false_iff_not]; omega
            have hbq : Below w7.heap.size w7 wr := by rw [HWR.out]; exact below_drewN' _ _
            have hy8 := hy7.below hbq
            have hsf8 := hsf7.below hbq
            have hsb8 := hsb7.below hbq
            have hst8 := hst7.below hbq
            have hd8 : wr.ownsRow w4.heap.size 3 1 v' (S ++ [k]).length (nv (S ++ [k])) := by rw [nv_append, List.length_append]; exact own_below hd7 hbq
            have hbw8 := hbw7.trans (hbq.mono hbw7.size)
            have hw8 : w4.heap.size ≤ wr.heap.size := Nat.le_trans hw7 hbq.size
            have HDO6 := Lib.hid hdo6
            have HN6 := Lib.hid hnr6
            clear hy7 hsf7 hsb7 hst7 hd7 hbw7 hbq hdo6 hnr6 hw7
            go_wp2_with fail
            rw [show (i : Int) + 1 = ((i + 1 : Nat) : Int) by omega]
            go_roundg (go - 1)
            case measure => omega
            case rel => exact ⟨i + 1, y6, c5, S ++ [k], rfl, by omega, by omega, by omega, hy8, gy6, HN6.out, by simp; omega, HF5.out, hbw8, hsf8, hsb8, hst8, hd8, HDO6.out, hw8⟩
    · have hexit : ¬ (i < m) ∨ (i < m ∧ decide ((i : Int) < 20) = false) := by
        by_cases h : i < m
        · right; exact ⟨h, by rw [decide_eq_false_iff_not]; omega⟩
        · left; exact h
      clear hlt
      have HTK2 := Lib.hid (taken_calls hy (by have := gy.tlen; omega))
      have HNR := Lib.hid hnr
      obtain ⟨da, dc, rfl, hdn, hdc, hdg⟩ := own_form hdid
      have HDG := Lib.hid hdg
      clear hdn hdc hdg hnr
      rcases hexit with q1 | ⟨q1, q2⟩
      · go_wp2_with fail
        refine HTK2.out.mono ?_
        rintro e w5 ⟨vt2, rfl, hv5, hfv5, hb5⟩
        have hy5 := hy.below hb5
        have hsf5 := hsf.below hb5
        have hsb5 := hsb.below hb5
        have hst5 := hst.below hb5
        have hd5 := own_below hdid hb5
        have hbw5 := hbw.trans (hb5.mono hbw.size)
        rw [HNR.out.taken] at hv5
        have HSM := Lib.hid (same_true hv5 hst5.own (by have := g.tlen; omega))
        clear hy hsf hsb hst hdid hbw hb5 hv5 hfv5
        go_wp2_with fail
        refine HSM.out.mono ?_
        rintro e w6 ⟨rfl, hb6⟩
        have hy6 := hy5.below hb6
        have hsf6 := hsf5.below hb6
        have hsb6 := hsb5.below hb6
        have hst6 := hst5.below hb6
        have hd6 := own_below hd5 hb6
        have hbw6 := hbw5.trans (hb6.mono hbw5.size)
        clear hy5 hsf5 hsb5 hst5 hd5 hbw5 hb6 HSM
        go_wp2_with fail
        obtain ⟨wo, rfl⟩ : ∃ wo : World, wo = wr := ⟨_, rfl⟩
        go_loopg [13] 25 (fun g s13 wr => ∃ (i : Nat) (y : Yd) (cs : Array Value), s13 = .int .i64 (i : Int) ∧ i ≤ S.length ∧ S.length - i ≤ g ∧ YardAt wr yb cs y ∧ Good y ∧ Near y0 y (S.drop i) ∧ Rest w w4.heap.size wr yb cs vfree lfree vbad y0.failed vtk y0.taken (Value.slice da S.length dc) S.length (nv S))
        case atStart => exact ⟨0, y, cs, rfl, by omega, by omega, hy6, gy, HNR.out, ⟨HF.out, hbw6, hsf6, hsb6, hst6, hd6, HDO.out⟩⟩
        case round =>
          clear hy6 hbw6 hsf6 hsb6 hst6 hd6 HF HDO HNR gy
          obtain ⟨t, y2, c2, rfl, htl, htk, hy, gy, hnr, hre⟩ := hrel
          have HNR := Lib.hid hnr
          clear hnr
          by_cases hlt : t < S.length
          · have t0 : (0 : Int) ≤ (t : Int) := by omega
            have t1 : (t : Int) < (S.length : Int) := by omega
            obtain ⟨db, rfl⟩ := HDG.out.resolve_left (by omega)
            obtain ⟨k, hk⟩ : ∃ k, S[t]? = some k := ⟨_, List.getElem?_eq_getElem hlt⟩
            have hnr := HNR.out
            rw [List.drop_eq_getElem_cons hlt, show S[t] = k by rw [List.getElem?_eq_getElem hlt] at hk; exact Option.some.inj hk] at hnr
            have hmem : k ∈ y2.failed := (hnr.failed k).2 (.inr List.mem_cons_self)
            have hkl : k < 2 ^ y2.n := by rw [hnr.n]; exact hnr.inn k List.mem_cons_self
            have hnr2 := Near.heal gy hnr
            have hnot : k ∉ (healY y2 k).1.failed := by
              rw [hnr2.failed]
              rintro (h | h)
              · exact hnr.apart k List.mem_cons_self h
              · exact (List.nodup_cons.1 hnr.nodup).1 h
            have hkl2 : k < 2 ^ (healY y2 k).1.n := by rw [hnr2.n, ← hnr.n]; exact hkl
            have gy2 : Good (healY y2 k).1 := heal_good gy k
            have HCELL : Hid ((nv S)[t]? = some (.int .i64 (k : Int))) := Lib.hid (by simp [nv, hk])
            have HFC := Lib.hid (fail_twice_calls hy gy hmem hkl)
            have HM := Lib.hid (And.intro hmem hkl)
            have HM2 := Lib.hid (And.intro hnot hkl2)
            have HNR2 := Lib.hid hnr2
            have HRE := Lib.hid hre
            have cc := own_cells hre.d t _ HCELL.out
            clear hk hnr hmem hkl hnr2 hnot hkl2 HNR hy hre
            go_wp2_with fail
            refine HFC.out.mono ?_
            rintro e w7 ⟨rfl, c7, hy7, hs7⟩
            have HRE7 := Lib.hid (HRE.out.step hs7)
            have HHC := Lib.hid (heal_some_calls hy7 gy HM.out.1 HM.out.2)
            have cc7 := own_cells HRE7.out.d t _ HCELL.out
            clear hy7 hs7 HRE HFC cc
            go_wp2_with fail
            refine HHC.out.mono ?_
            rintro e w8 ⟨rfl, c8, hy8, hs8⟩
            have HRE8 := Lib.hid (HRE7.out.step hs8)
            have HH2 := Lib.hid (heal_none_calls hy8 gy2 HM2.out.1 HM2.out.2)
            have cc8 := own_cells HRE8.out.d t _ HCELL.out
            clear hy8 hs8 HRE7 HHC cc7
            go_wp2_with fail
            refine HH2.out.mono ?_
            rintro e w9 ⟨rfl, c9, hy9, hs9⟩
            have HRE9 := Lib.hid (HRE8.out.step hs9)
            clear hs9 HRE8 HH2 cc8
            go_wp2_with fail
            rw [show (t : Int) + 1 = ((t + 1 : Nat) : Int) by omega]
            go_roundg (gk - 1)
            case measure => omega
            case rel => exact ⟨t + 1, (healY y2 k).1, c9, rfl, by omega, by omega, hy9, gy2, HNR2.out, HRE9.out⟩
          · obtain rfl : y2 = y0 := Near.done g gy (by have := HNR.out; rwa [List.drop_eq_nil_of_le (by omega)] at this)
            have HFR9 := Lib.hid (free_list hy gy)
            have HRE := Lib.hid hre
            clear HNR hre
            go_wp2_with fail
            refine HFR9.out.mono ?_
            rintro e wa ⟨va, la, rfl, hla, hva, hva', hba⟩
            have ela : la = lfree := hla.unique HFL.out
            rw [ela] at hva
            have HRa := Lib.hid (HRE.out.later hba)
            have hya := hy.below hba
            have HS1 := Lib.hid (same_true hva HRa.out.sf.own (by have := HFL.out.len g; omega))
            clear hy hla hva hva' hba HRE HFR9 ela
            go_wp2_with fail
            refine HS1.out.mono ?_
            rintro e wb ⟨rfl, hbb⟩
            have HRb := Lib.hid (HRa.out.later hbb)
            have hyb := hya.below hbb
            have HFD := Lib.hid (failed_calls hyb (by have := g.flen; omega))
            clear hya hbb HRa HS1
            go_wp2_with fail
            refine HFD.out.mono ?_
            rintro e wc ⟨vc, rfl, hvc, hvc', hbc⟩
            have HRc := Lib.hid (HRb.out.later hbc)
            have hyc := hyb.below hbc
            have HS2 := Lib.hid (sameInts_true hvc HRc.out.sb.own (by have := g.flen; omega))
            clear hyb hbc HRb HFD hvc hvc'
            go_wp2_with fail
            refine HS2.out.mono ?_
            rintro e wd ⟨rfl, hbd⟩
            have HRd := Lib.hid (HRc.out.later hbd)
            have hyd := hyc.below hbd
            have HTD := Lib.hid (taken_calls hyd (by have := g.tlen; omega))
            clear hyc hbd HRc HS2
            go_wp2_with fail
            refine HTD.out.mono ?_
            rintro e we ⟨ve, rfl, hve, hve', hbe⟩
            have HRe := Lib.hid (HRd.out.later hbe)
            have HS3 := Lib.hid (same_true hve HRe.out.st.own (by have := g.tlen; omega))
            clear hyd hbe HRd HTD hve hve'
            go_wp2_with fail
            refine HS3.out.mono ?_
            rintro e wf ⟨rfl, hbf⟩
            have HRf := Lib.hid (HRe.out.later hbf)
            have HKN := Lib.hid (known_calls wf)
            clear hbf HRe HS3
            go_wp2_with fail
            refine HKN.out.mono ?_
            rintro e wg ⟨rfl, hbg⟩
            go_wp2_with fail
            go_ret
            exact ⟨rfl, HRf.out.below.trans (hbg.mono HRf.out.below.size)⟩
      · go_wp2_with fail
        refine HTK2.out.mono ?_
        rintro e w5 ⟨vt2, rfl, hv5, hfv5, hb5⟩
        have hy5 := hy.below hb5
        have hsf5 := hsf.below hb5
        have hsb5 := hsb.below hb5
        have hst5 := hst.below hb5
        have hd5 := own_below hdid hb5
        have hbw5 := hbw.trans (hb5.mono hbw.size)
        rw [HNR.out.taken] at hv5
        have HSM := Lib.hid (same_true hv5 hst5.own (by have := g.tlen; omega))
        clear hy hsf hsb hst hdid hbw hb5 hv5 hfv5
        go_wp2_with fail
        refine HSM.out.mono ?_
        rintro e w6 ⟨rfl, hb6⟩
        have hy6 := hy5.below hb6
        have hsf6 := hsf5.below hb6
        have hsb6 := hsb5.below hb6
        have hst6 := hst5.below hb6
        have hd6 := own_below hd5 hb6
        have hbw6 := hbw5.trans (hb6.mono hbw5.size)
        clear hy5 hsf5 hsb5 hst5 hd5 hbw5 hb6 HSM
        go_wp2_with fail
        obtain ⟨wo, rfl⟩ : ∃ wo : World, wo = wr := ⟨_, rfl⟩
        go_loopg [13] 25 (fun g s13 wr => ∃ (i : Nat) (y : Yd) (cs : Array Value), s13 = .int .i64 (i : Int) ∧ i ≤ S.length ∧ S.length - i ≤ g ∧ YardAt wr yb cs y ∧ Good y ∧ Near y0 y (S.drop i) ∧ Rest w w4.heap.size wr yb cs vfree lfree vbad y0.failed vtk y0.taken (Value.slice da S.length dc) S.length (nv S))
        case atStart => exact ⟨0, y, cs, rfl, by omega, by omega, hy6, gy, HNR.out, ⟨HF.out, hbw6, hsf6, hsb6, hst6, hd6, HDO.out⟩⟩
        case round =>
          clear hy6 hbw6 hsf6 hsb6 hst6 hd6 HF HDO HNR gy
          obtain ⟨t, y2, c2, rfl, htl, htk, hy, gy, hnr, hre⟩ := hrel
          have HNR := Lib.hid hnr
          clear hnr
          by_cases hlt : t < S.length
          · have t0 : (0 : Int) ≤ (t : Int) := by omega
            have t1 : (t : Int) < (S.length : Int) := by omega
            obtain ⟨db, rfl⟩ := HDG.out.resolve_left (by omega)
            obtain ⟨k, hk⟩ : ∃ k, S[t]? = some k := ⟨_, List.getElem?_eq_getElem hlt⟩
            have hnr := HNR.out
            rw [List.drop_eq_getElem_cons hlt, show S[t] = k by rw [List.getElem?_eq_getElem hlt] at hk; exact Option.some.inj hk] at hnr
            have hmem : k ∈ y2.failed := (hnr.failed k).2 (.inr List.mem_cons_self)
            have hkl : k < 2 ^ y2.n := by rw [hnr.n]; exact hnr.inn k List.mem_cons_self
            have hnr2 := Near.heal gy hnr
            have hnot : k ∉ (healY y2 k).1.failed := by
              rw [hnr2.failed]
              rintro (h | h)
              · exact hnr.apart k List.mem_cons_self h
              · exact (List.nodup_cons.1 hnr.nodup).1 h
            have hkl2 : k < 2 ^ (healY y2 k).1.n := by rw [hnr2.n, ← hnr.n]; exact hkl
            have gy2 : Good (healY y2 k).1 := heal_good gy k
            have HCELL : Hid ((nv S)[t]? = some (.int .i64 (k : Int))) := Lib.hid (by simp [nv, hk])
            have HFC := Lib.hid (fail_twice_calls hy gy hmem hkl)
            have HM := Lib.hid (And.intro hmem hkl)
            have HM2 := Lib.hid (And.intro hnot hkl2)
            have HNR2 := Lib.hid hnr2
            have HRE := Lib.hid hre
            have cc := own_cells hre.d t _ HCELL.out
            clear hk hnr hmem hkl hnr2 hnot hkl2 HNR hy hre
            go_wp2_with fail
            refine HFC.out.mono ?_
            rintro e w7 ⟨rfl, c7, hy7, hs7⟩
            have HRE7 := Lib.hid (HRE.out.step hs7)
            have HHC := Lib.hid (heal_some_calls hy7 gy HM.out.1 HM.out.2)
            have cc7 := own_cells HRE7.out.d t _ HCELL.out
            clear hy7 hs7 HRE HFC cc
            go_wp2_with fail
            refine HHC.out.mono ?_
            rintro e w8 ⟨rfl, c8, hy8, hs8⟩
            have HRE8 := Lib.hid (HRE7.out.step hs8)
            have HH2 := Lib.hid (heal_none_calls hy8 gy2 HM2.out.1 HM2.out.2)
            have cc8 := own_cells HRE8.out.d t _ HCELL.out
            clear hy8 hs8 HRE7 HHC cc7
            go_wp2_with fail
            refine HH2.out.mono ?_
            rintro e w9 ⟨rfl, c9, hy9, hs9⟩
            have HRE9 := Lib.hid (HRE8.out.step hs9)
            clear hs9 HRE8 HH2 cc8
            go_wp2_with fail
            rw [show (t : Int) + 1 = ((t + 1 : Nat) : Int) by omega]
            go_roundg (gk - 1)
            case measure => omega
            case rel => exact ⟨t + 1, (healY y2 k).1, c9, rfl, by omega, by omega, hy9, gy2, HNR2.out, HRE9.out⟩
          · obtain rfl : y2 = y0 := Near.done g gy (by have := HNR.out; rwa [List.drop_eq_nil_of_le (by omega)] at this)
            have HFR9 := Lib.hid (free_list hy gy)
            have HRE := Lib.hid hre
            clear HNR hre
            go_wp2_with fail
            refine HFR9.out.mono ?_
            rintro e wa ⟨va, la, rfl, hla, hva, hva', hba⟩
            have ela : la = lfree := hla.unique HFL.out
            rw [ela] at hva
            have HRa := Lib.hid (HRE.out.later hba)
            have hya := hy.below hba
            have HS1 := Lib.hid (same_true hva HRa.out.sf.own (by have := HFL.out.len g; omega))
            clear hy hla hva hva' hba HRE HFR9 ela
            go_wp2_with fail
            refine HS1.out.mono ?_
            rintro e wb ⟨rfl, hbb⟩
            have HRb := Lib.hid (HRa.out.later hbb)
            have hyb := hya.below hbb
            have HFD := Lib.hid (failed_calls hyb (by have := g.flen; omega))
            clear hya hbb HRa HS1
            go_wp2_with fail
            refine HFD.out.mono ?_
            rintro e wc ⟨vc, rfl, hvc, hvc', hbc⟩
            have HRc := Lib.hid (HRb.out.later hbc)
            have hyc := hyb.below hbc
            have HS2 := Lib.hid (sameInts_true hvc HRc.out.sb.own (by have := g.flen; omega))
            clear hyb hbc HRb HFD hvc hvc'
            go_wp2_with fail
            refine HS2.out.mono ?_
            rintro e wd ⟨rfl, hbd⟩
            have HRd := Lib.hid (HRc.out.later hbd)
            have hyd := hyc.below hbd
            have HTD := Lib.hid (taken_calls hyd (by have := g.tlen; omega))
            clear hyc hbd HRc HS2
            go_wp2_with fail
            refine HTD.out.mono ?_
            rintro e we ⟨ve, rfl, hve, hve', hbe⟩
            have HRe := Lib.hid (HRd.out.later hbe)
            have HS3 := Lib.hid (same_true hve HRe.out.st.own (by have := g.tlen; omega))
            clear hyd hbe HRd HTD hve hve'
            go_wp2_with fail
            refine HS3.out.mono ?_
            rintro e wf ⟨rfl, hbf⟩
            have HRf := Lib.hid (HRe.out.later hbf)
            have HKN := Lib.hid (known_calls wf)
            clear hbf HRe HS3
            go_wp2_with fail
            refine HKN.out.mono ?_
            rintro e wg ⟨rfl, hbg⟩
            go_wp2_with fail
            go_ret
            exact ⟨rfl, HRf.out.below.trans (hbg.mono HRf.out.below.size)⟩
end Go.Proofs.Ythmgnfkjkdmdoaa
