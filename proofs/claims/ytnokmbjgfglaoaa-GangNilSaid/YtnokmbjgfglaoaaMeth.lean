/- Contracts: at, Rows, Active, Cells, New, Turn, sort. -/
import Derived.Test.YtnokmbjgfglaoaaSort
set_option linter.unusedSimpArgs false
set_option linter.unusedVariables false
namespace Go.Proofs.Ytnokmbjgfglaoaa
open Go Go.RowKit Go.Lib Go.Sort

/-- A job's place among the cells, or -1. -/
def isId (id : Nat) (c : Cel) : Bool := decide (c.id = id)
def atI (l : List Cel) (id : Nat) : Int := Lib.idxBy (fun _ y => isId id y) l default

set_option maxHeartbeats 1000000 in
set_option maxRecDepth 100000 in
theorem closure54 (x : Cel) (W : World) (b id : Nat) (hc : W.cell? ⟨b, 0, none⟩ = some (.int .u32 (id : Int))) :
    Calls Try.prog 54 #[.agg (cc x).toArray, .pointer (some ⟨b, 0, none⟩)] W fun e w' => e = .returned (.bool (isId id x)) ∧ Below W.heap.size W w' := by
  obtain ⟨xi, xr, xs, xo⟩ := x
  show Calls Try.prog 54 #[.agg #[.int .u32 (xi : Int), .int .i64 (xr : Int), .int .i64 (xs : Int), .int .i64 (xo : Int)], .pointer (some ⟨b, 0, none⟩)] W fun e w' => e = .returned (.bool (decide (xi = id))) ∧ Below W.heap.size W w'
  have hd : decide (xi = id) = ((xi : Int) == (id : Int)) := by
    rw [Bool.eq_iff_iff, decide_eq_true_eq, beq_iff_eq]; omega
  rw [hd]
  have e0 := (World.cell?_alloc_lt W (.cells #[.int .u32 (xi : Int), .int .i64 (xr : Int), .int .i64 (xs : Int), .int .i64 (xo : Int)] 34) _ (World.block_lt_of_cell? W _ hc)).trans hc
  clear hd
  go_enter Try.func54, Try.ntmps54
  go_wp2_with fail
  go_ret
  exact ⟨rfl, below_alloc' _ _⟩

set_option maxHeartbeats 2000000 in
set_option maxRecDepth 100000 in
theorem at_calls {w : World} {mb : Nat} {v : Value} {m : Mx} (h : MatAt w mb v m) (hl : m.cells.length ≤ 1073741824) (id : Nat) :
    Calls Try.prog 39 #[.pointer (some ⟨mb, 0, none⟩), .int .u32 (id : Int)] w fun e w' => e = .returned (.int .i64 (atI m.cells id)) ∧ Below w.heap.size w w' := by
  obtain ⟨W1, hW1⟩ : ∃ W1, W1 = w.alloc (.cells #[.int .u32 (id : Int)] 30) := ⟨_, rfl⟩
  have hbl : Below w.heap.size w W1 := by rw [hW1]; exact below_alloc' _ _
  have h1 := h.below hbl
  have hb : W1.heap[w.heap.size]? = some (.cells #[.int .u32 (id : Int)] 30 (0, 0)) := by rw [hW1]; exact box_heap _ _ _
  have hc : W1.cell? ⟨w.heap.size, 0, none⟩ = some (.int .u32 (id : Int)) := by simp [World.cell?, hb]
  have hcon : Calls Try.prog 53 #[v, .func (.func 54) #[] #[.pointer (some ⟨w.heap.size, 0, none⟩)]] W1 fun e w' => e = .returned (.int .i64 (atI m.cells id)) ∧ Below W1.heap.size W1 w' := by
    have eg : ∀ args w, (callFunc 54 args).run Try.prog w = .ok (.enter 54 args) w := enters_of Try.func54 (by kernel_rfl) rfl
    rcases h1.own.2 with ⟨hv, hz⟩ | ⟨g, cap, cur, hv, _, hg, hn, hcm, hs, ht⟩
    · rw [hv]
      have hnil : m.cells = [] := List.length_eq_zero_iff.1 hz
      rw [show atI m.cells id = -1 by rw [hnil]; rfl]
      clear h1 hb hc hbl h hW1
      go_enter Try.func53, Try.ntmps53
      go_wp2_with fail
      refine wp_loop_rounds 1 ?_
      rw [rounds_succ]
      go_wp2_with fail
      go_ret
      refine ⟨rfl, ?_⟩
      exact Below.refl _ _
    · rw [hv]
      have := AnyQ.slices_IndexFunc Try.laysSlH06_f53 4 Try.isAgg34 Try.sizeOf34 cc (fun _ => rfl) (isId id) 54 #[.pointer (some ⟨w.heap.size, 0, none⟩)] eg g 0 m.cells.length cap m.cells W1 (fun W x hb2 => (closure54 x W w.heap.size id ((hb2.cell (World.block_lt_of_cell? W1 _ hc)).trans hc)).mono fun e w' hh => ⟨hh.1, hb2.trans (hh.2.mono hb2.size)⟩) (Nat.le_refl _) (by omega) (Array.getElem?_eq_some_iff.1 hg).1 (fun j hj i u hu => by
        have hx : m.cells[j]? = some m.cells[j]! := by rw [getElem!_pos m.cells j hj]; exact List.getElem?_eq_getElem hj
        have hown := h1.own
        rw [hv] at hown
        obtain ⟨f0, f1, f2, f3⟩ := hown.four rfl j _ hx
        rw [Nat.zero_add]
        match i, hu with
        | 0, hu => cases hu; exact f0
        | 1, hu => cases hu; exact f1
        | 2, hu => cases hu; exact f2
        | 3, hu => cases hu; exact f3)
      rw [List.take_of_length_le (Nat.le_refl _)] at this
      exact this
  have c1 : W1.cell? ⟨mb, 1, none⟩ = some v := h1.c1
  have HW := Lib.hid hW1
  have HC := Lib.hid hcon
  have HBL := Lib.hid hbl
  clear hW1 hcon hbl h1 hb hc h
  go_enter Try.func39, Try.ntmps39
  go_upto_region 1 with (fail)
  rw [← HW.out]
  go_wp2_with fail
  refine HC.out.mono ?_
  rintro e w2 ⟨rfl, hb2⟩
  go_wp2_with fail
  go_ret
  exact ⟨rfl, HBL.out.trans (hb2.mono HBL.out.size)⟩

/-- How many rows. -/
def lastRow : List Cel → Option Nat
  | [] => none
  | [c] => some c.row
  | _ :: c :: l => lastRow (c :: l)
def rowsN (l : List Cel) : Nat := match lastRow l with | none => 0 | some r => r + 1
theorem lastRow_eq : ∀ (l : List Cel) (c : Cel), l[l.length - 1]? = some c → lastRow l = some c.row
  | [], c, h => by simp at h
  | [a], c, h => by simp at h; simp [lastRow, h]
  | a :: b :: l, c, h => by
    unfold lastRow
    refine lastRow_eq (b :: l) c ?_
    simpa using h

set_option maxHeartbeats 2000000 in
set_option maxRecDepth 100000 in
theorem rows_calls {w : World} {mb : Nat} {v : Value} {m : Mx} (h : MatAt w mb v m) (hl : m.cells.length ≤ 1073741824) (hr : ∀ c ∈ m.cells, c.row < 1000) :
    Calls Try.prog 17 #[.pointer (some ⟨mb, 0, none⟩)] w fun e w' => e = .returned (.int .i64 ((rowsN m.cells : Nat) : Int)) ∧ Below w.heap.size w w' := by
  obtain ⟨a, c, rfl, hn, hc, hg⟩ := own_form h.own
  have c1 := h.c1
  obtain ⟨R, hR⟩ : ∃ R, R = rowsN m.cells := ⟨_, rfl⟩
  rw [← hR]
  by_cases h0 : m.cells.length = 0
  · have hR0 : R = 0 := by rw [hR, List.length_eq_zero_iff.1 h0]; rfl
    have HR := Lib.hid hR0
    rw [h0] at c1
    clear h hg hn hc hR hR0 h0
    go_enter Try.func17, Try.ntmps17
    go_wp2_with fail
    go_ret
    exact ⟨by rw [HR.out]; rfl, Below.refl _ _⟩
  · obtain ⟨g, rfl⟩ := hg.resolve_left h0
    obtain ⟨x, hx⟩ : ∃ x, m.cells[m.cells.length - 1]? = some x := ⟨_, List.getElem?_eq_getElem (by omega)⟩
    obtain ⟨f0, f1, f2, f3⟩ := h.own.four rfl _ x hx
    have hR1 : R = x.row + 1 := by rw [hR, rowsN, lastRow_eq _ _ hx]
    have hxr := hr x (List.mem_of_getElem? hx)
    obtain ⟨L, hL⟩ : ∃ L, L = m.cells.length := ⟨_, rfl⟩
    rw [← hL] at c1 f1 hl h0
    have l0 : ((L : Int) == 0) = false := by rw [beq_eq_false_iff_ne]; omega
    have l1 : (0 : Int) ≤ (L : Int) - 1 := by omega
    have l2 : (L : Int) - 1 < (L : Int) := by omega
    have l3 : ((L : Int) - 1).toNat = L - 1 := by omega
    have HR := Lib.hid hR1
    obtain ⟨xi, xr, xs, xo⟩ := x
    simp only at f1 hxr
    clear h hg hn hc hR hR1 hr hx hL h0 f0 f2 f3
    go_enter Try.func17, Try.ntmps17
    go_wp2_with fail
    go_quiet (fail)
    go_wp2_with fail
    go_ret
    exact ⟨by rw [HR.out]; rfl, below_drewN' _ _⟩
theorem rows_nil (w : World) : Calls Try.prog 17 #[.pointer none] w fun e w' => e = .returned (.int .i64 0) ∧ w' = w := by
  go_enter Try.func17, Try.ntmps17
  go_wp2_with fail
  go_ret
  exact ⟨rfl, rfl⟩

theorem active_calls {w : World} {mb : Nat} {v : Value} {m : Mx} (h : MatAt w mb v m) : Calls Try.prog 14 #[.pointer (some ⟨mb, 0, none⟩)] w fun e w' => e = .returned (.int .i64 (m.act : Int)) ∧ w' = w := by
  have c2 := h.c2
  clear h
  go_enter Try.func14, Try.ntmps14
  go_wp2_with fail
  go_ret
  exact ⟨rfl, rfl⟩
theorem active_nil (w : World) : Calls Try.prog 14 #[.pointer none] w fun e w' => e = .returned (.int .i64 0) ∧ w' = w := by
  go_enter Try.func14, Try.ntmps14
  go_wp2_with fail
  go_ret
  exact ⟨rfl, rfl⟩

theorem cells_calls {w : World} {mb : Nat} {v : Value} {m : Mx} (h : MatAt w mb v m) (hl : m.cells.length ≤ 1073741824) :
    Calls Try.prog 11 #[.pointer (some ⟨mb, 0, none⟩)] w fun e w' => ∃ v', e = .returned v' ∧ OwnC w' v' m.cells ∧ (∀ k, v'.ownBlock = some k → w.heap.size ≤ k) ∧ Below w.heap.size w w' := by
  have c1 := h.c1
  have HC := Lib.hid (cloneC h.own hl)
  clear h
  go_enter Try.func11, Try.ntmps11
  go_wp2_with fail
  refine HC.out.mono ?_
  rintro e w' ⟨v', rfl, h1, h2, h3⟩
  go_wp2_with fail
  go_ret
  exact ⟨_, rfl, h1, h2, h3⟩
theorem cells_nil (w : World) : Calls Try.prog 11 #[.pointer none] w fun e w' => e = .returned (.slice none 0 0) ∧ w' = w := by
  go_enter Try.func11, Try.ntmps11
  go_wp2_with fail
  go_ret
  exact ⟨rfl, rfl⟩

theorem new_bad (x : Int) (w : World) (hx : x < 0 ∨ 10 < x) : Calls Try.prog 23 #[.int .i64 x] w fun e w' => e = .returned (.tuple #[.pointer none, .int .i64 2]) ∧ w' = w := by
  rcases hx with hx | hx
  · have g1 : decide (x < 0) = true := by rw [decide_eq_true_eq]; exact hx
    go_enter Try.func23, Try.ntmps23
    go_wp2_with fail
    go_ret2
    exact ⟨rfl, rfl⟩
  · have g1 : decide (x < 0) = false := by rw [decide_eq_false_iff_not]; omega
    have g2 : decide (x > 10) = true := by rw [decide_eq_true_eq]; exact hx
    go_enter Try.func23, Try.ntmps23
    go_wp2_with fail
    go_ret2
    exact ⟨rfl, rfl⟩
theorem new_calls (n : Nat) (w : World) (hn : n ≤ 10) : Calls Try.prog 23 #[.int .i64 (n : Int)] w fun e w' => e = .returned (.tuple #[.pointer (some ⟨w.heap.size, 0, none⟩), .int .i64 0]) ∧ MatAt w' w.heap.size (.slice none 0 0) ⟨n, [], 0⟩ ∧ Below w.heap.size w w' := by
  have g1 : decide ((n : Int) < 0) = false := by rw [decide_eq_false_iff_not]; omega
  have g2 : decide ((n : Int) > 10) = false := by rw [decide_eq_false_iff_not]; omega
  go_enter Try.func23, Try.ntmps23
  go_wp2_with fail
  go_ret2
  exact ⟨rfl, ⟨box_heap _ _ _, ⟨rfl, .inl ⟨rfl, rfl⟩⟩, by simp [Value.ownBlock]⟩, below_alloc' _ _⟩

/-- A number of the matrix has been stored. -/
theorem MatAt.setAct {w : World} {mb : Nat} {v : Value} {m : Mx} (h : MatAt w mb v m) (x : Nat) : MatAt (w.setCell ⟨mb, 2, none⟩ (.int .i64 (x : Int))) mb v { m with act := x } ∧ MStep w mb v (w.setCell ⟨mb, 2, none⟩ (.int .i64 (x : Int))) v := by
  have hk : Keeps (fun k => k = mb) w (w.setCell ⟨mb, 2, none⟩ (.int .i64 (x : Int))) := Keeps.setCell (Keeps.refl _ _) _ _ (.inl rfl)
  refine ⟨⟨?_, own_keeps h.own hk fun k hk' e => h.off (e ▸ hk'), h.off⟩, hk.mono fun k _ e => .inl e, fun k hk' => .inl hk'⟩
  have := h.heap
  simp [World.setCell, Array.getElem?_modify, this]
/-- The cells have been turned, and are stored. -/
theorem MatAt.put {w w' : World} {mb : Nat} {v v' : Value} {m : Mx} {l : List Cel} (h : MatAt w mb v m) (hm : Moved w v w' v') (hl : OwnC w' v' l) :
    MatAt (w'.setCell ⟨mb, 1, none⟩ v') mb v' { m with cells := l } ∧ MStep w mb v (w'.setCell ⟨mb, 1, none⟩ v') v' := by
  have hmb : w'.heap[mb]? = some (.cells #[.int .i64 (m.n : Int), v, .int .i64 (m.act : Int)] 62 (0, 0)) := by
    rw [hm.grown.block mb h.lt (fun e => h.off e.symm)]; exact h.heap
  have hvy : v'.ownBlock ≠ some mb := by
    intro e
    rcases hm.at_ with hh | ⟨b, hb, hle⟩
    · exact h.off (hh ▸ e)
    · rw [hb] at e; injection e with e; have := h.lt; omega
  have hk : Keeps (fun k => some k = v.ownBlock) w w' := Keeps.of_grown hm.grown
  have hk2 : Keeps (footM mb v) w (w'.setCell ⟨mb, 1, none⟩ v') := Keeps.setCell (hk.mono fun k _ hh => .inr hh.symm) _ _ (.inl (.inl rfl))
  have hk3 : Keeps (fun k => k = mb) w' (w'.setCell ⟨mb, 1, none⟩ v') := Keeps.setCell (Keeps.refl _ _) _ _ (.inl rfl)
  refine ⟨⟨?_, own_keeps hl hk3 fun k hk' e => hvy (e ▸ hk'), hvy⟩, hk2, fun k hk' => ?_⟩
  · simp [World.setCell, Array.getElem?_modify, hmb]
  · rcases hk' with rfl | hk'
    · exact .inl (.inl rfl)
    · rcases hm.at_ with hh | ⟨b, hb, hle⟩
      · exact .inl (.inr (hh ▸ hk'))
      · rw [hb] at hk'; injection hk' with e; subst e; exact .inr hle

def turnM (m : Mx) : Mx := { m with act := if m.act + 1 ≥ rowsN m.cells then 0 else m.act + 1 }
theorem turn_nil (w : World) : Calls Try.prog 18 #[.pointer none] w fun e w' => e = .returned (.tuple #[]) ∧ w' = w := by
  go_enter Try.func18, Try.ntmps18
  go_wp2_with fail
  exact bodyPost_ret (v := .tuple #[]) (by simp [results, Try.results18, go_sem]) rfl ⟨rfl, rfl⟩

set_option maxHeartbeats 4000000 in
set_option maxRecDepth 100000 in
theorem turn_calls {w : World} {mb : Nat} {v : Value} {m : Mx} (h : MatAt w mb v m) (hl : m.cells.length ≤ 1073741824) (hr : ∀ c ∈ m.cells, c.row < 1000) (ha : m.act < 1000000) :
    Calls Try.prog 18 #[.pointer (some ⟨mb, 0, none⟩)] w fun e w' => e = .returned (.tuple #[]) ∧ MatAt w' mb v (turnM m) ∧ MStep w mb v w' v := by
  obtain ⟨h2, hs2⟩ := h.setAct (m.act + 1)
  obtain ⟨W, hW⟩ : ∃ W, W = w.setCell ⟨mb, 2, none⟩ (.int .i64 ((m.act + 1 : Nat) : Int)) := ⟨_, rfl⟩
  rw [← hW] at h2 hs2
  have c2 := h.c2
  have f2 := h.frozen 2
  have d2 : W.cell? ⟨mb, 2, none⟩ = some (.int .i64 ((m.act + 1 : Nat) : Int)) := h2.c2
  have HRW := Lib.hid (rows_calls (h2.below (below_drewN' W 1)) hl hr)
  have hR : rowsN m.cells < 1001 := by
    unfold rowsN
    cases hx : m.cells[m.cells.length - 1]? with
    | none =>
      have : m.cells = [] := by
        cases hc : m.cells with
        | nil => rfl
        | cons a l => rw [hc] at hx; simp at hx
      rw [this]; simp [lastRow]
    | some x =>
      rw [lastRow_eq _ _ hx]
      have := hr x (List.mem_of_getElem? hx)
      simp only
      omega
  have HX := Lib.hid h2
  have HS := Lib.hid hs2
  have HW := Lib.hid hW
  obtain ⟨A, hA⟩ : ∃ A, A = m.act := ⟨_, rfl⟩
  rw [← hA] at c2 ha d2
  simp only at HRW
  obtain ⟨R, hRR⟩ : ∃ R, R = rowsN m.cells := ⟨_, rfl⟩
  rw [← hRR] at HRW hR
  have HAR := Lib.hid (And.intro hA hRR)
  clear h h2 hs2 hW hr hA hRR
  go_enter Try.func18, Try.ntmps18
  go_upto_region 2 with (fail)
  rw [show (A : Int) + 1 = ((A + 1 : Nat) : Int) by omega]
  rw [show (A + 1 : Nat) = m.act + 1 by rw [HAR.out.1], ← HW.out]
  clear c2 f2
  refine Thr.drawn [(0, false), (1, false), (2, false), (3, false), (4, false), (5, true), (6, false)] 7
    (fun w' => w'.cell? ⟨mb, 2, none⟩ = some (.int .i64 ((A + 1 : Nat) : Int))) (by kernel_rfl) (by kernel_rfl) (fun c a w d v h => by cases d <;> exact h) d2 ?_
  simp only [Thr.pick, Array.reduceGetElem?]
  iterate 5
    apply Thr.read rfl
    · intro w' hS
      go_simp
      try with_reducible rfl
    simp only [Act.put, List.setIfInBounds_toArray, List.set_cons_zero, List.set_cons_succ]
  apply Thr.act rfl
  intro K hK
  go_simp
  refine HRW.out.mono ?_
  rintro e w3 ⟨rfl, hb3⟩
  have hbW : Below W.heap.size W w3 := (below_drewN' W 1).trans hb3
  have hx3 := HX.out.below hbW
  have hs3 := HS.out.later hbW
  have d3 : w3.cell? ⟨mb, 2, none⟩ = some (.int .i64 ((A + 1 : Nat) : Int)) := by rw [HAR.out.1]; exact hx3.c2
  refine hK _ _ d3 ?_
  clear hK K
  try simp only [Act.put, List.setIfInBounds_toArray, List.set_cons_zero, List.set_cons_succ]
  obtain ⟨T, hT⟩ : ∃ T, T = decide (((A + 1 : Nat) : Int) ≥ ((R : Nat) : Int)) := ⟨_, rfl⟩
  refine Thr.read (v := .bool T) rfl ?_ ?_
  · intro w' hS
    go_simp
    try rw [hT]
  simp only [Act.put, List.setIfInBounds_toArray, List.set_cons_zero, List.set_cons_succ]
  refine Thr.done ?_
  have HT := Lib.hid hT
  have HX3 := Lib.hid hx3
  have HS3 := Lib.hid hs3
  have f3 := hx3.frozen 2
  clear hT hx3 hs3 hb3 hbW d2
  cases T with
  | true =>
    go_wp2_with fail
    go_end0
    have hc : m.act + 1 ≥ rowsN m.cells := by
      have := of_decide_eq_true HT.out.symm
      have h1 := HAR.out.1; have h2 := HAR.out.2
      omega
    rw [show turnM m = { m with act := 0 } by unfold turnM; rw [if_pos hc]]
    obtain ⟨z1, z2⟩ := HX3.out.setAct 0
    exact ⟨rfl, z1, HS3.out.trans z2⟩
  | false =>
    go_wp2_with fail
    go_end0
    have hc : ¬ (m.act + 1 ≥ rowsN m.cells) := by
      have := of_decide_eq_false HT.out.symm
      have h1 := HAR.out.1; have h2 := HAR.out.2
      omega
    rw [show turnM m = { m with act := m.act + 1 } by unfold turnM; rw [if_neg hc]]
    exact ⟨rfl, HX3.out, HS3.out⟩
end Go.Proofs.Ytnokmbjgfglaoaa
