/- Contract: known (what the chapter's example fixes). -/
import Derived.Test.YtnokmbjgfglaoaaMatrix
import Derived.Test.YtnokmbjgfglaoaaSame
set_option linter.unusedSimpArgs false
set_option linter.unusedVariables false
namespace Go.Proofs.Ytnokmbjgfglaoaa
open Go Go.RowKit Go.Lib Go.Sort
attribute [local go_sem high] PGangPlays.eqA34 PGangPlays.eqA32

theorem runs_sorted {w : World} {mb : Nat} {v : Value} {m : Mx} (h : MatAt w mb v m) (hg : Good m) (hl : m.cells.length ≤ 100) (out : List Nat) (ho : runsL m = out) (hs : out.Pairwise (· ≤ ·)) (hl2 : out.length ≤ 12) :
    Calls Try.prog 12 #[.pointer (some ⟨mb, 0, none⟩)] w fun e w' => ∃ v', e = .returned v' ∧ OwnU w' v' out ∧ Below w.heap.size w w' := by
  refine (runs_calls h hl hg.fit hg.rows (by have := hg.act_lt; omega) out ?_).mono ?_
  · intro W V hV
    rw [ho] at hV
    refine (sort_sorted hV hs hl2).mono ?_
    rintro e w' ⟨rfl, q, rfl⟩
    exact ⟨rfl, own_below hV (below_drewN' _ _), Keeps.of_below (below_drewN' _ _)⟩
  · rintro e w' ⟨v', rfl, h1, _, h3⟩
    exact ⟨v', rfl, h1, h3⟩
theorem own_lit (w : World) (l : List Nat) (hl : l.length ≤ 1000) (h0 : l.length ≠ 0) : OwnU (w.alloc (.cells (uv l).toArray 30)) (.slice (some ⟨w.heap.size, 0, none⟩) l.length l.length) l := by
  refine ⟨by simp [uv], .inr ⟨w.heap.size, l.length, (uv l).toArray, rfl, by omega, box_heap _ _ _, by omega, by simp [maxLen]; omega, by simp [uv], ?_⟩⟩
  simp only [Nat.mul_one]; rw [List.take_of_length_le (by simp [uv])]

def kA : Cel := ⟨1, 0, 0, 1⟩
def kB : Cel := ⟨2, 1, 0, 2⟩
def kC : Cel := ⟨3, 0, 2, 1⟩
theorem known1 {r : Cel} {e : Int} {m' : Mx} (hp : PlaceR ⟨2, [], 0⟩ 1 1 r e m') : e = 0 ∧ r = kA ∧ m' = ⟨2, [kA], 0⟩ :=
  takes_cells (row := 0) (k := 0) (good_new 2 (by omega)) hp (by unfold badArg; simp) (by simp) ⟨by omega, by decide, by decide +kernel, by omega, by omega⟩ [kA] (List.Perm.refl _) (List.pairwise_singleton _ _)
theorem goodA : Good ⟨2, [kA], 0⟩ := ⟨by decide, by decide, by simp [kA]; exact ⟨0, rfl⟩, by decide, by decide, List.pairwise_singleton _ _, List.pairwise_singleton _ _, .inl rfl⟩
theorem known2 {r : Cel} {e : Int} {m' : Mx} (hp : PlaceR ⟨2, [kA], 0⟩ 2 2 r e m') : e = 0 ∧ r = kB ∧ m' = ⟨2, [kA, kB], 0⟩ := by
  refine takes_cells (row := 1) (k := 0) goodA hp (by unfold badArg; simp) (by decide) ⟨by omega, by decide, by decide +kernel, by omega, ?_⟩ [kA, kB] (List.Perm.refl _) (by unfold SortC; decide)
  intro r' hr' k' hk'
  have e1 : r' = 0 := by omega
  have e2 : k' = 0 := by
    have h : k' * 4 < 4 := hk'
    omega
  subst e1; subst e2
  decide +kernel
theorem goodAB : Good ⟨2, [kA, kB], 0⟩ := by
  refine ⟨by decide, by decide, ?_, by decide, by decide, ?_, by unfold SortC; decide, .inl rfl⟩
  · simp [kA, kB]
    exact ⟨⟨0, rfl⟩, ⟨0, rfl⟩⟩
  · simp [Apart, kA, kB]
theorem known3 {r : Cel} {e : Int} {m' : Mx} (hp : PlaceR ⟨2, [kA, kB], 0⟩ 3 1 r e m') : e = 0 ∧ r = kC ∧ m' = ⟨2, [kA, kC, kB], 0⟩ := by
  refine takes_cells (row := 0) (k := 1) goodAB hp (by unfold badArg; simp) (by decide) ⟨by omega, by decide, by decide +kernel, ?_, by omega⟩ [kA, kC, kB] (by decide) (by unfold SortC; decide)
  intro k' hk'
  have e2 : k' = 0 := by omega
  subst e2
  decide +kernel
theorem goodABC : Good ⟨2, [kA, kC, kB], 0⟩ := by
  refine ⟨by decide, by decide, ?_, by decide, by decide, ?_, by unfold SortC; decide, .inl rfl⟩
  · simp [kA, kB, kC]
    exact ⟨⟨0, rfl⟩, ⟨1, rfl⟩, ⟨0, rfl⟩⟩
  · simp [Apart, kA, kB, kC]
theorem runsABC : runsL ⟨2, [kA, kC, kB], 0⟩ = [1, 3] := by decide +kernel
theorem removeA : removeM ⟨2, [kA, kC, kB], 0⟩ 1 = (⟨2, [kC, kB], 0⟩, 0) := by rfl
theorem runsCB : runsL ⟨2, [kC, kB], 0⟩ = [3] := by decide +kernel
theorem turnCB : turnM ⟨2, [kC, kB], 0⟩ = ⟨2, [kC, kB], 1⟩ := by rfl
theorem runsCBt : runsL ⟨2, [kC, kB], 1⟩ = [2] := by decide +kernel
theorem removeC : removeM ⟨2, [kC, kB], 1⟩ 3 = (⟨2, [kB], 1⟩, 0) := by rfl
theorem goodCB : Good ⟨2, [kC, kB], 0⟩ := by have h := (good_remove goodABC 1).1; rwa [removeA] at h
theorem goodCBt : Good ⟨2, [kC, kB], 1⟩ := by have h := good_turn goodCB; rwa [turnCB] at h
theorem goodB : Good ⟨2, [kB], 1⟩ := by have h := (good_remove goodCBt 3).1; rwa [removeC] at h
theorem unifyB {m' : Mx} {n : Nat} (h : UniR ⟨2, [kB], 1⟩ m' n) : n = 1 ∧ m' = ⟨2, [⟨2, 0, 0, 2⟩], 0⟩ := by
  obtain ⟨l2, hp, hs, hm, hn⟩ := h
  have h1 : passU [kB] 1 = ([⟨2, 0, 0, 2⟩], 1) := by decide +kernel
  have hp : l2.Perm (passU [kB] 1).1 := hp
  have hn : n = (passU [kB] 1).2 := hn
  rw [h1] at hp hn
  have h2 := List.perm_singleton.1 hp
  rw [hm, h2]
  exact ⟨hn, by rfl⟩

/-- A box beside a matrix. -/
structure Off (W : World) (mb : Nat) (v : Value) (X : Nat) (cs : Array Value) : Prop where
  heap : W.heap[X]? = some (.cells cs 34 (0, 0))
  off : ¬ footM mb v X
theorem Off.lt {W : World} {mb : Nat} {v : Value} {X : Nat} {cs : Array Value} (h : Off W mb v X cs) : X < W.heap.size := (Array.getElem?_eq_some_iff.1 h.heap).1
theorem Off.step {W W' : World} {mb : Nat} {v v' : Value} {X : Nat} {cs : Array Value} (h : Off W mb v X cs) (g : MStep W mb v W' v') : Off W' mb v' X cs :=
  ⟨(g.keeps.block X h.lt h.off).trans h.heap, g.notFoot h.lt h.off⟩
theorem Off.on {W W' : World} {mb : Nat} {v : Value} {X : Nat} {cs : Array Value} (h : Off W mb v X cs) (hb : Below W.heap.size W W') : Off W' mb v X cs := h.step (MStep.of_below hb)
theorem Off.new {w : World} {mb : Nat} {v : Value} {m : Mx} (h : MatAt w mb v m) (cs : Array Value) : Off (w.alloc (.cells cs 34)) mb v w.heap.size cs :=
  ⟨box_heap _ _ _, fun hf => by have := h.foot_lt _ hf; omega⟩
theorem Off.cell {W : World} {mb : Nat} {v : Value} {X : Nat} {cs : Array Value} (h : Off W mb v X cs) (i : Nat) : W.cell? ⟨X, i, none⟩ = cs[i]? := by
  simp [World.cell?, h.heap]
theorem samejobs_same {w : World} {v : Value} {l : List Nat} (h1 : OwnU w v l) (hl : l.length ≤ 1000) (h0 : l.length ≠ 0) :
    Calls Try.prog 29 #[v, .slice (some ⟨w.heap.size, 0, none⟩) l.length l.length] (w.alloc (.cells (uv l).toArray 30)) fun e w' => e = .returned (.bool true) ∧ Below w.heap.size w w' := by
  refine (samejobs_calls (own_below h1 (below_alloc' _ _)) (own_lit w l hl h0) (by omega) (by omega)).mono ?_
  rintro e w' ⟨rfl, hb⟩
  exact ⟨by simp, (below_alloc' w _).trans (hb.mono (below_alloc' w _).size)⟩

set_option maxHeartbeats 8000000 in
set_option maxRecDepth 100000 in
theorem known_calls (w : World) : Calls Try.prog 16 #[] w fun e w' => e = .returned (.bool true) ∧ Below w.heap.size w w' := by
  go_enter Try.func16, Try.ntmps16
  go_wp2_with fail
  refine (new_calls 2 w (by omega)).mono ?_
  rintro e w1 ⟨rfl, hm, hb⟩
  obtain ⟨mb, hmb⟩ : ∃ mb, mb = w.heap.size := ⟨_, rfl⟩
  rw [← hmb] at hm ⊢
  have S1 : MatS w w1 mb (.slice none 0 0) ⟨2, [], 0⟩ := ⟨hm, by
    intro k hk
    rcases hk with rfl | h
    · omega
    · simp [Value.ownBlock] at h, hb⟩
  have H1 := Lib.hid S1
  clear hm hb hmb S1
  go_wp2_with fail
  refine (place_calls (H1.out.at_) (by simp) (good_new 2 (by omega)).fit (by simp) 1 1).mono ?_
  rintro e w2 ⟨r, ev, m', v2, rfl, hp, hm2, hs2⟩
  obtain ⟨rfl, rfl, rfl⟩ := known1 hp
  have H2 := Lib.hid (H1.out.step hm2 hs2)
  clear hp hm2 hs2 H1
  unfold kA cc
  go_wp2_with fail
  obtain ⟨X2, hX2⟩ : ∃ X, X = w2.heap.size := ⟨_, rfl⟩
  obtain ⟨W2, hW2⟩ : ∃ W, W = w2.alloc (.cells #[.int .u32 1, .int .i64 0, .int .i64 0, .int .i64 1] 34) := ⟨_, rfl⟩
  have O2 : Off W2 mb v2 X2 #[.int .u32 1, .int .i64 0, .int .i64 0, .int .i64 1] := by rw [hX2, hW2]; exact Off.new H2.out.at_ _
  have hbl2 : Below w2.heap.size w2 W2 := by rw [hW2]; exact below_alloc' _ _
  rw [← hX2, ← hW2]
  have G2 := H2.out.on hbl2
  have P2 := Lib.hid O2
  have HG2 := Lib.hid G2
  clear O2 hbl2 G2 hX2 hW2 H2
  refine (place_calls (HG2.out.at_) (by simp) goodA.fit (by simp) 2 2).mono ?_
  rintro e w3 ⟨r, ev, m', v3, rfl, hp, hm3, hs3⟩
  obtain ⟨rfl, rfl, rfl⟩ := known2 hp
  have H3 := Lib.hid (HG2.out.step hm3 hs3)
  have Q2 := Lib.hid (P2.out.step hs3)
  clear hp hm3 hs3 HG2 P2
  unfold kB cc
  go_wp2_with fail
  obtain ⟨X3, hX3⟩ : ∃ X, X = w3.heap.size := ⟨_, rfl⟩
  obtain ⟨W3, hW3⟩ : ∃ W, W = w3.alloc (.cells #[.int .u32 2, .int .i64 1, .int .i64 0, .int .i64 2] 34) := ⟨_, rfl⟩
  have O3 : Off W3 mb v3 X3 #[.int .u32 2, .int .i64 1, .int .i64 0, .int .i64 2] := by rw [hX3, hW3]; exact Off.new H3.out.at_ _
  have hbl3 : Below w3.heap.size w3 W3 := by rw [hW3]; exact below_alloc' _ _
  rw [← hX3, ← hW3]
  have G3 := H3.out.on hbl3
  have P3 := Lib.hid O3
  have P2 := Lib.hid (Q2.out.on hbl3)
  have HG3 := Lib.hid G3
  clear O3 hbl3 G3 hX3 hW3 H3 Q2
  refine (place_calls (HG3.out.at_) (by simp) goodAB.fit (by simp) 3 1).mono ?_
  rintro e w4 ⟨r, ev, m', v4, rfl, hp, hm4, hs4⟩
  obtain ⟨rfl, rfl, rfl⟩ := known3 hp
  have H4 := Lib.hid (HG3.out.step hm4 hs4)
  have Q2 := Lib.hid (P2.out.step hs4)
  have Q3 := Lib.hid (P3.out.step hs4)
  clear hp hm4 hs4 HG3 P2 P3
  unfold kC cc
  go_wp2_with fail
  obtain ⟨X4, hX4⟩ : ∃ X, X = w4.heap.size := ⟨_, rfl⟩
  obtain ⟨W4, hW4⟩ : ∃ W, W = w4.alloc (.cells #[.int .u32 3, .int .i64 0, .int .i64 2, .int .i64 1] 34) := ⟨_, rfl⟩
  have O4 : Off W4 mb v4 X4 #[.int .u32 3, .int .i64 0, .int .i64 2, .int .i64 1] := by rw [hX4, hW4]; exact Off.new H4.out.at_ _
  have hbl4 : Below w4.heap.size w4 W4 := by rw [hW4]; exact below_alloc' _ _
  rw [← hX4, ← hW4]
  have P4 := Lib.hid O4
  have P2 := Lib.hid (Q2.out.on hbl4)
  have P3 := Lib.hid (Q3.out.on hbl4)
  have HG4 := Lib.hid (H4.out.on hbl4)
  clear O4 hbl4 hX4 hW4 H4 Q2 Q3
  have HG := HG4
  clear HG4
  refine (runs_sorted HG.out.at_ goodABC (by simp) _ runsABC (by decide) (by decide)).mono ?_
  rintro e wr ⟨vr, rfl, ho, hb⟩
  have HQ := Lib.hid (And.intro (HG.out.on hb) (And.intro (P2.out.on hb) (And.intro (P3.out.on hb) (P4.out.on hb))))
  have HO := Lib.hid ho
  clear hb ho HG P2 P3 P4
  go_wp2_with fail
  refine (samejobs_same HO.out (by decide) (by decide)).mono ?_
  rintro e wj ⟨rfl, hb⟩
  have HG := Lib.hid (HQ.out.1.on hb)
  have P2 := Lib.hid (HQ.out.2.1.on hb)
  have P3 := Lib.hid (HQ.out.2.2.1.on hb)
  have P4 := Lib.hid (HQ.out.2.2.2.on hb)
  clear HQ HO hb
  go_wp2_with fail
  have hcall := remove_calls HG.out.at_ (by simp) (by decide) (by simp) 1
  rw [removeA] at hcall
  refine hcall.mono ?_
  rintro e ws ⟨rfl, vs, hm, hs⟩
  have HG' := Lib.hid (HG.out.step hm hs)
  have P2' := Lib.hid (P2.out.step hs)
  have P3' := Lib.hid (P3.out.step hs)
  have P4' := Lib.hid (P4.out.step hs)
  clear HG P2 P3 P4 hcall hm hs
  have HG := HG'
  have P2 := P2'
  have P3 := P3'
  have P4 := P4'
  clear HG' P2' P3' P4'
  go_wp2_with fail
  refine (runs_sorted HG.out.at_ goodCB (by simp) _ runsCB (by decide) (by decide)).mono ?_
  rintro e wr ⟨vr, rfl, ho, hb⟩
  have HQ := Lib.hid (And.intro (HG.out.on hb) (And.intro (P2.out.on hb) (And.intro (P3.out.on hb) (P4.out.on hb))))
  have HO := Lib.hid ho
  clear hb ho HG P2 P3 P4
  go_wp2_with fail
  refine (samejobs_same HO.out (by decide) (by decide)).mono ?_
  rintro e wj ⟨rfl, hb⟩
  have HG := Lib.hid (HQ.out.1.on hb)
  have P2 := Lib.hid (HQ.out.2.1.on hb)
  have P3 := Lib.hid (HQ.out.2.2.1.on hb)
  have P4 := Lib.hid (HQ.out.2.2.2.on hb)
  clear HQ HO hb
  go_wp2_with fail
  have hcall := turn_calls HG.out.at_ (by simp) (by decide) (by simp)
  rw [turnCB] at hcall
  refine hcall.mono ?_
  rintro e ws ⟨rfl, hm, hs⟩
  have HG' := Lib.hid (HG.out.step hm hs)
  have P2' := Lib.hid (P2.out.step hs)
  have P3' := Lib.hid (P3.out.step hs)
  have P4' := Lib.hid (P4.out.step hs)
  clear HG P2 P3 P4 hcall hm hs
  have HG := HG'
  have P2 := P2'
  have P3 := P3'
  have P4 := P4'
  clear HG' P2' P3' P4'
  go_wp2_with fail
  refine (runs_sorted HG.out.at_ goodCBt (by simp) _ runsCBt (by decide) (by decide)).mono ?_
  rintro e wr ⟨vr, rfl, ho, hb⟩
  have HQ := Lib.hid (And.intro (HG.out.on hb) (And.intro (P2.out.on hb) (And.intro (P3.out.on hb) (P4.out.on hb))))
  have HO := Lib.hid ho
  clear hb ho HG P2 P3 P4
  go_wp2_with fail
  refine (samejobs_same HO.out (by decide) (by decide)).mono ?_
  rintro e wj ⟨rfl, hb⟩
  have HG := Lib.hid (HQ.out.1.on hb)
  have P2 := Lib.hid (HQ.out.2.1.on hb)
  have P3 := Lib.hid (HQ.out.2.2.1.on hb)
  have P4 := Lib.hid (HQ.out.2.2.2.on hb)
  clear HQ HO hb
  go_wp2_with fail
  have hcall := remove_calls HG.out.at_ (by simp) (by decide) (by simp) 3
  rw [removeC] at hcall
  refine hcall.mono ?_
  rintro e ws ⟨rfl, vs, hm, hs⟩
  have HG' := Lib.hid (HG.out.step hm hs)
  have P2' := Lib.hid (P2.out.step hs)
  have P3' := Lib.hid (P3.out.step hs)
  have P4' := Lib.hid (P4.out.step hs)
  clear HG P2 P3 P4 hcall hm hs
  have HG := HG'
  have P2 := P2'
  have P3 := P3'
  have P4 := P4'
  clear HG' P2' P3' P4'
  go_wp2_with fail
  refine (unify_calls HG.out.at_ (by simp) goodB.fit (by decide) (by simp)).mono ?_
  rintro e ws ⟨m', n, v', rfl, hu, hm, hs⟩
  obtain ⟨rfl, rfl⟩ := unifyB hu
  have HG' := Lib.hid (HG.out.step hm hs)
  have P2' := Lib.hid (P2.out.step hs)
  have P3' := Lib.hid (P3.out.step hs)
  have P4' := Lib.hid (P4.out.step hs)
  clear HG P2 P3 P4 hu hm hs
  have a0 := P2'.out.cell 0
  have a1 := P2'.out.cell 1
  have a2 := P2'.out.cell 2
  have a3 := P2'.out.cell 3
  have b1 := P3'.out.cell 1
  have c0 := P4'.out.cell 0
  have c1 := P4'.out.cell 1
  have c2 := P4'.out.cell 2
  have c3 := P4'.out.cell 3
  simp only [List.getElem?_toArray, List.getElem?_cons_zero, List.getElem?_cons_succ] at a0 a1 a2 a3 b1 c0 c1 c2 c3
  go_wp2_with fail
  refine (rows_calls HG'.out.at_ (by simp) (by decide)).mono ?_
  rintro e wz ⟨rfl, hb⟩
  have HZ := Lib.hid (HG'.out.on hb)
  clear a0 a1 a2 a3 b1 c0 c1 c2 c3 hb HG' P2' P3' P4'
  rw [show ((rowsN (Mx.mk 2 [⟨2, 0, 0, 2⟩] 0).cells : Nat) : Int) = 1 from rfl]
  go_wp2_with fail
  refine (active_calls HZ.out.at_).mono ?_
  rintro e wz ⟨rfl, rfl⟩
  rw [show (((Mx.mk 2 [⟨2, 0, 0, 2⟩] 0).act : Nat) : Int) = 0 from rfl]
  go_wp2_with fail
  go_ret
  exact ⟨rfl, HZ.out.below⟩
end Go.Proofs.Ytnokmbjgfglaoaa
