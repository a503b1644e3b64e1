/- Contracts: sort, Remove. -/
import Derived.Test.YtnokmbjgfglaoaaMeth
set_option linter.unusedSimpArgs false
set_option linter.unusedVariables false
namespace Go.Proofs.Ytnokmbjgfglaoaa
open Go Go.RowKit Go.Lib Go.Sort

set_option maxHeartbeats 1000000 in
set_option maxRecDepth 100000 in
theorem sortm_calls {w : World} {mb : Nat} {v : Value} {m : Mx} (h : MatAt w mb v m) (hl : m.cells.length ≤ 1073741824) :
    Calls Try.prog 38 #[.pointer (some ⟨mb, 0, none⟩)] w fun e w' => e = .returned (.tuple #[]) ∧ ∃ l', l'.Perm m.cells ∧ SortC l' ∧ MatAt w' mb v { m with cells := l' } ∧ MStep w mb v w' v := by
  have hcon : Calls Try.prog 49 #[v, .func (.func 50) #[] #[]] w fun e w' => e = .returned (.tuple #[]) ∧ ∃ l', l'.Perm m.cells ∧ SortC l' ∧ OwnC w' v l' ∧ Keeps (fun k => v.ownBlock = some k) w w' := by
    by_cases h0 : m.cells.length = 0
    · have hnil := List.length_eq_zero_iff.1 h0
      have ho := h.own
      rw [hnil] at ho ⊢
      obtain ⟨a, c, hv, _⟩ := own_form ho
      rw [hv] at ho ⊢
      refine (AnyF.slices_SortFunc_none { Try.laysSlF06_f49 with } a c (.func (.func 50) #[] #[]) w).mono ?_
      rintro e w' ⟨rfl, rfl⟩
      exact ⟨rfl, [], List.Perm.refl _, List.Pairwise.nil, ho, Keeps.refl _ _⟩
    · exact sort_cells h.own hl h0
  have c1 := h.c1
  have HC := Lib.hid hcon
  have HM := Lib.hid h
  clear hcon h
  go_enter Try.func38, Try.ntmps38
  go_wp2_with fail
  refine HC.out.mono ?_
  rintro e w' ⟨rfl, l', h1, h2, h3, h4⟩
  go_wp2_with fail
  go_end0
  refine ⟨rfl, l', h1, h2, ⟨?_, h3, HM.out.off⟩, h4.mono fun k _ e => .inr e, fun k hk => .inl hk⟩
  rw [h4.block mb HM.out.lt HM.out.off]
  exact HM.out.heap

/-- What Remove makes of a matrix, and answers. -/
def removeM (m : Mx) (id : Nat) : Mx × Int :=
  if atI m.cells id < 0 then (m, 4)
  else (⟨m.n, m.cells.eraseIdx (atI m.cells id).toNat, if m.act ≥ rowsN (m.cells.eraseIdx (atI m.cells id).toNat) then 0 else m.act⟩, 0)

theorem idxFrom_cases (id : Nat) : ∀ (l : List Cel) (i : Nat), (Lib.idxByFrom (fun _ y => isId id y) (default : Cel) l i = -1 ∧ ∀ c ∈ l, c.id ≠ id) ∨
    ∃ k c, l[k]? = some c ∧ c.id = id ∧ Lib.idxByFrom (fun _ y => isId id y) (default : Cel) l i = ((i + k : Nat) : Int)
  | [], i => .inl ⟨rfl, fun c h => absurd h List.not_mem_nil⟩
  | x :: l, i => by
    unfold Lib.idxByFrom
    by_cases hx : x.id = id
    · right
      refine ⟨0, x, rfl, hx, ?_⟩
      rw [if_pos (by unfold isId; exact decide_eq_true hx)]
      rfl
    · rw [if_neg (by unfold isId; simpa using hx)]
      rcases idxFrom_cases id l (i + 1) with ⟨h1, h2⟩ | ⟨k, c, h1, h2, h3⟩
      · exact .inl ⟨h1, fun c hc => (List.mem_cons.1 hc).elim (fun e => e ▸ hx) (h2 c)⟩
      · exact .inr ⟨k + 1, c, by simpa using h1, h2, by rw [h3]; congr 1; omega⟩
theorem atI_cases (l : List Cel) (id : Nat) : (atI l id = -1 ∧ ∀ c ∈ l, c.id ≠ id) ∨ ∃ (k : Nat) (c : Cel), l[k]? = some c ∧ c.id = id ∧ atI l id = (k : Int) := by
  rcases idxFrom_cases id l 0 with h | ⟨k, c, h1, h2, h3⟩
  · exact .inl h
  · exact .inr ⟨k, c, h1, h2, by rw [show atI l id = _ from h3]; simp⟩
theorem rowsN_lt {l : List Cel} {N : Nat} (h : ∀ c ∈ l, c.row < N) : rowsN l ≤ N := by
  unfold rowsN
  cases hx : l[l.length - 1]? with
  | none =>
    have : l = [] := by
      cases hc : l with
      | nil => rfl
      | cons a r => rw [hc] at hx; simp at hx
    rw [this]; simp [lastRow]
  | some x =>
    rw [lastRow_eq _ _ hx]
    have := h x (List.mem_of_getElem? hx)
    simp only
    omega

theorem remove_nil (x : Int) (w : World) : Calls Try.prog 22 #[.pointer none, .int .u32 x] w fun e w' => e = .returned (.int .i64 1) ∧ w' = w := by
  go_enter Try.func22, Try.ntmps22
  go_wp2_with fail
  go_ret
  exact ⟨rfl, rfl⟩

set_option maxHeartbeats 4000000 in
set_option maxRecDepth 100000 in
theorem remove_calls {w : World} {mb : Nat} {v : Value} {m : Mx} (h : MatAt w mb v m) (hl : m.cells.length ≤ 1000) (hr : ∀ c ∈ m.cells, c.row < 1000) (ha : m.act < 1000000) (id : Nat) :
    Calls Try.prog 22 #[.pointer (some ⟨mb, 0, none⟩), .int .u32 (id : Int)] w fun e w' => e = .returned (.int .i64 (removeM m id).2) ∧ ∃ v', MatAt w' mb v' (removeM m id).1 ∧ MStep w mb v w' v' := by
  have HA := Lib.hid (at_calls h (by omega) id)
  have HM := Lib.hid h
  rcases atI_cases m.cells id with ⟨hi, _⟩ | ⟨k, c, hk, _, hi⟩
  · have hT : removeM m id = (m, 4) := by unfold removeM; rw [if_pos (by omega)]
    rw [hT]
    rw [hi] at HA
    clear h hi hT
    go_enter Try.func22, Try.ntmps22
    go_wp2_with fail
    refine HA.out.mono ?_
    rintro e w2 ⟨rfl, hb2⟩
    go_wp2_with fail
    go_ret
    exact ⟨rfl, v, HM.out.below hb2, MStep.of_below hb2⟩
  · have hkl : k < m.cells.length := (List.getElem?_eq_some_iff.1 hk).1
    obtain ⟨l', hl'⟩ : ∃ l', l' = m.cells.eraseIdx k := ⟨_, rfl⟩
    have hT : removeM m id = (⟨m.n, l', if m.act ≥ rowsN l' then 0 else m.act⟩, 0) := by
      unfold removeM
      rw [if_neg (by omega), hi, Int.toNat_natCast, hl']
    have hr' : ∀ c ∈ l', c.row < 1000 := fun c hc => hr c (List.mem_of_mem_eraseIdx (hl' ▸ hc))
    have hll : l'.length ≤ 1000 := by rw [hl', List.length_eraseIdx_of_lt hkl]; omega
    have hRl := rowsN_lt hr'
    rw [hi] at HA
    obtain ⟨T, hTT⟩ : ∃ T, T = removeM m id := ⟨_, rfl⟩
    rw [← hTT]
    rw [← hTT] at hT
    have HT := Lib.hid hT
    have HL := Lib.hid hl'
    have k0 : (0 : Int) ≤ (k : Int) := by omega
    have HR' := Lib.hid hr'
    have HHL := Lib.hid (And.intro hl (And.intro hll (And.intro hRl ha)))
    have kl : (k : Int) < 1000 := by omega
    clear h hi hT hTT hk hl' hr hr' hl hll hRl ha
    go_enter Try.func22, Try.ntmps22
    go_wp2_with fail
    refine HA.out.mono ?_
    rintro e w2 ⟨rfl, hb2⟩
    have h2 := HM.out.below hb2
    have HDE := Lib.hid (delC h2.own k hkl)
    have c1 := h2.c1
    have H2 := Lib.hid h2
    have HS2 := Lib.hid (MStep.of_below (mb := mb) (v := v) hb2)
    clear h2 hb2 HA
    go_wp2_with fail
    refine HDE.out.mono ?_
    rintro e w3 ⟨v', rfl, ho3, hm3⟩
    rw [← HL.out] at ho3
    obtain ⟨a', cap', rfl, _, _, _⟩ := own_form ho3
    obtain ⟨h4, hs4⟩ := H2.out.put hm3 ho3
    have hc3 : w3.cell? ⟨mb, 1, none⟩ = some v := by
      have := H2.out
      rw [World.cell?_of_block (hm3.grown.block mb this.lt (fun e => this.off e.symm))]; exact c1
    have hf3 : w3.frozen? ⟨mb, 1, none⟩ = false := by
      have := H2.out
      have hb := (hm3.grown.block mb this.lt (fun e => this.off e.symm)).trans this.heap
      simp [World.frozen?, hb]
    obtain ⟨W4, hW4⟩ : ∃ W4, W4 = w3.setCell ⟨mb, 1, none⟩ (.slice a' l'.length cap') := ⟨_, rfl⟩
    rw [← hW4] at h4 hs4
    have HW4 := Lib.hid hW4
    have H4 := Lib.hid h4
    have HS4 := Lib.hid (HS2.out.trans hs4)
    have d2 : W4.cell? ⟨mb, 2, none⟩ = some (.int .i64 (m.act : Int)) := h4.c2
    have HRW := Lib.hid (rows_calls (h4.below (below_drewN' W4 1)) (by have := HHL.out.2.1; show l'.length ≤ _; omega) HR'.out)
    clear hW4 h4 hs4 ho3 hm3 c1 H2 HS2 HDE
    go_upto_region 7 with (fail)
    rw [← HW4.out]
    clear hc3 hf3
    refine Thr.drawn [(0, false), (1, false), (2, false), (3, false), (4, false), (5, true), (6, false)] 7
      (fun w' => w'.cell? ⟨mb, 2, none⟩ = some (.int .i64 (m.act : Int))) (by kernel_rfl) (by kernel_rfl) (fun c a w d v h => by cases d <;> exact h) d2 ?_
    simp only [Thr.pick, Array.reduceGetElem?]
    iterate 5
      apply Thr.read rfl
      · intro w' hS
        go_simp
        try with_reducible rfl
      simp only [Act.put, List.setIfInBounds_toArray, List.set_cons_zero, List.set_cons_succ]
    apply Thr.act rfl
    intro K hK
    go_simp
    refine HRW.out.mono ?_
    rintro e w5 ⟨rfl, hb5⟩
    have hbW : Below W4.heap.size W4 w5 := (below_drewN' W4 1).trans hb5
    have hx5 := H4.out.below hbW
    have hs5 := HS4.out.later hbW
    have d3 : w5.cell? ⟨mb, 2, none⟩ = some (.int .i64 (m.act : Int)) := hx5.c2
    refine hK _ _ d3 ?_
    clear hK K
    try simp only [Act.put, List.setIfInBounds_toArray, List.set_cons_zero, List.set_cons_succ]
    obtain ⟨U, hU⟩ : ∃ U, U = decide ((m.act : Int) ≥ ((rowsN l' : Nat) : Int)) := ⟨_, rfl⟩
    refine Thr.read (v := .bool U) rfl ?_ ?_
    · intro w' hS
      go_simp
      try rw [hU]
    simp only [Act.put, List.setIfInBounds_toArray, List.set_cons_zero, List.set_cons_succ]
    refine Thr.done ?_
    have HU := Lib.hid hU
    have HX5 := Lib.hid hx5
    have HS5 := Lib.hid hs5
    have f3 := hx5.frozen 2
    clear hU hx5 hs5 hb5 hbW d2
    cases U with
    | true =>
      go_wp2_with fail
      go_ret
      have hc : m.act ≥ rowsN l' := by
        have := of_decide_eq_true HU.out.symm
        omega
      rw [if_pos hc] at HT
      obtain ⟨z1, z2⟩ := HX5.out.setAct 0
      exact ⟨by rw [HT.out]; rfl, _, by rw [HT.out]; exact z1, HS5.out.trans z2⟩
    | false =>
      go_wp2_with fail
      go_ret
      have hc : ¬ (m.act ≥ rowsN l') := by
        have := of_decide_eq_false HU.out.symm
        omega
      rw [if_neg hc] at HT
      exact ⟨by rw [HT.out]; rfl, _, by rw [HT.out]; exact HX5.out, HS5.out⟩
end Go.Proofs.Ytnokmbjgfglaoaa
