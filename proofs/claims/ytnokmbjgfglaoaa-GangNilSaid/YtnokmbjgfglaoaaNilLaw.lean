/- GangNil, the plain law: sixteen jobs of two workers fill a matrix of order one. -/
import Derived.Test.YtnokmbjgfglaoaaDet
set_option linter.unusedSimpArgs false
set_option linter.unusedVariables false
namespace Go.Proofs.Ytnokmbjgfglaoaa
open Go Go.RowKit Go.Lib Go.Sort

def colN (f i : Nat) : List Cel := (List.range i).map fun j => ⟨f + j, j, 0, 1⟩
theorem colN_mem {f i : Nat} {c : Cel} : c ∈ colN f i ↔ ∃ j, j < i ∧ c = ⟨f + j, j, 0, 1⟩ := by
  unfold colN
  simp only [List.mem_map, List.mem_range]
  exact ⟨fun ⟨j, h, e⟩ => ⟨j, h, e.symm⟩, fun ⟨j, h, e⟩ => ⟨j, h, e.symm⟩⟩
theorem colN_succ (f i : Nat) : colN f (i + 1) = colN f i ++ [⟨f + i, i, 0, 1⟩] := by
  unfold colN
  rw [List.range_succ, List.map_append]
  rfl
theorem colN_sort (f i : Nat) : SortC (colN f i) := by
  unfold SortC colN
  rw [List.pairwise_map]
  exact List.pairwise_lt_range.imp fun h => by simp only; omega
theorem colN_fit (f i : Nat) : Fit (colN f i) := by
  intro c hc
  obtain ⟨j, _, rfl⟩ := colN_mem.1 hc
  simp
theorem col_takes (f i : Nat) (hi : i < 16) : Takes ⟨1, colN f i, 0⟩ 1 i 0 := by
  refine ⟨hi, by show 0 * 2 ^ 1 < 2 ^ 1; decide, ?_, by omega, ?_⟩
  · rw [free_iff (colN_fit f i) _ _ _ (by decide)]
    intro c hc hr
    obtain ⟨j, hj, rfl⟩ := colN_mem.1 hc
    simp only at hr
    omega
  · intro r' hr' k' hk'
    have e : k' = 0 := by
      have h : k' * 2 < 2 := hk'
      omega
    subst e
    rw [Bool.eq_false_iff]
    intro h
    have := (free_iff (colN_fit f i) _ _ _ (by decide)).1 h ⟨f + r', r', 0, 1⟩ (colN_mem.2 ⟨r', hr', rfl⟩) rfl
    simp at this
theorem col_place {f i : Nat} (hi : i < 16) (hf : f ≠ 0) (hg : Good ⟨1, colN f i, 0⟩) {r : Cel} {e : Int} {m' : Mx} (hp : PlaceR ⟨1, colN f i, 0⟩ (f + i) 1 r e m') :
    e = 0 ∧ r = ⟨f + i, i, 0, 1⟩ ∧ m' = ⟨1, colN f (i + 1), 0⟩ ∧ Good ⟨1, colN f (i + 1), 0⟩ := by
  have h := takes_cells (row := i) (k := 0) hg hp (by unfold badArg; simp; omega) (by
    intro c hc
    obtain ⟨j, hj, rfl⟩ := colN_mem.1 hc
    simp only
    omega) (col_takes f i hi) (colN f (i + 1)) (by rw [colN_succ]; exact List.Perm.refl _) (colN_sort f (i + 1))
  have hg' := (good_place hg hp).1
  rw [h.2.2] at hg'
  exact ⟨h.1, h.2.1, h.2.2, hg'⟩
theorem col_full {f : Nat} (hf : f ≠ 0) {r : Cel} {e : Int} {m' : Mx} (hp : PlaceR ⟨1, colN f 16, 0⟩ (f + 16) 0 r e m') : e = 5 ∧ m' = ⟨1, colN f 16, 0⟩ := by
  rcases hp with ⟨h, _⟩ | ⟨_, ⟨c, hc, h⟩, _⟩ | ⟨_, _, he, hpl⟩ | ⟨_, _, _, h1, h2, _⟩
  · unfold badArg at h
    simp at h
  · obtain ⟨j, hj, rfl⟩ := colN_mem.1 hc
    simp only at h
    omega
  · have hfr := hpl.free
    have hin := hpl.inn
    have hin : r.s < 2 := hin
    rw [free_iff (colN_fit f 16) _ _ _ (by simp; omega)] at hfr
    have := hfr ⟨f + r.row, r.row, 0, 1⟩ (colN_mem.2 ⟨r.row, hpl.row, rfl⟩) rfl
    simp at this
    omega
  · exact ⟨h1, h2⟩
def colX (f : Nat) : List Cel := (colN f 16).eraseIdx 3
theorem col_remove (f : Nat) : removeM ⟨1, colN f 16, 0⟩ (f + 3) = (⟨1, colX f, 0⟩, 0) := by
  rcases atI_cases (colN f 16) (f + 3) with ⟨_, h⟩ | ⟨k, c, hk, hc, ha⟩
  · exact absurd rfl (h ⟨f + 3, 3, 0, 1⟩ (colN_mem.2 ⟨3, by omega, rfl⟩))
  · have hk3 : k = 3 := by
      unfold colN at hk
      rw [List.getElem?_map] at hk
      cases hr : (List.range 16)[k]? with
      | none => rw [hr] at hk; simp at hk
      | some j =>
        rw [hr] at hk
        have hj : j = k := by
          have := List.getElem?_eq_some_iff.1 hr
          obtain ⟨h1, h2⟩ := this
          rw [List.getElem_range] at h2
          exact h2.symm
        simp at hk
        subst hj
        rw [← hk] at hc
        simp at hc
        exact hc
    subst hk3
    unfold removeM
    rw [if_neg (by rw [ha]; decide)]
    simp only [ha, ite_self]
    rfl
def colY (f : Nat) : List Cel := colN f 3 ++ (⟨f + 17, 3, 0, 0⟩ :: ((List.range 12).map fun j => ⟨f + (4 + j), 4 + j, 0, 1⟩))
theorem colX_eq (f : Nat) : colX f = colN f 3 ++ ((List.range 12).map fun j => ⟨f + (4 + j), 4 + j, 0, 1⟩) := by rfl
theorem colX_mem {f : Nat} {c : Cel} : c ∈ colX f ↔ ∃ j, j < 16 ∧ j ≠ 3 ∧ c = ⟨f + j, j, 0, 1⟩ := by
  rw [colX_eq, List.mem_append, colN_mem]
  simp only [List.mem_map, List.mem_range]
  constructor
  · rintro (⟨j, hj, rfl⟩ | ⟨j, hj, rfl⟩)
    · exact ⟨j, by omega, by omega, rfl⟩
    · exact ⟨4 + j, by omega, by omega, rfl⟩
  · rintro ⟨j, hj, h3, rfl⟩
    by_cases h : j < 3
    · exact .inl ⟨j, h, rfl⟩
    · refine .inr ⟨j - 4, by omega, ?_⟩
      rw [show 4 + (j - 4) = j by omega]
theorem colX_fit (f : Nat) : Fit (colX f) := by
  intro c hc
  obtain ⟨j, _, _, rfl⟩ := colX_mem.1 hc
  simp
theorem col_last {f : Nat} (hf : f ≠ 0) (hg : Good ⟨1, colX f, 0⟩) {r : Cel} {e : Int} {m' : Mx} (hp : PlaceR ⟨1, colX f, 0⟩ (f + 17) 0 r e m') : e = 0 ∧ r = ⟨f + 17, 3, 0, 0⟩ ∧ m' = ⟨1, colY f, 0⟩ := by
  refine takes_cells (row := 3) (k := 0) hg hp (by unfold badArg; simp) ?_ ⟨by omega, by show 0 * 2 ^ 0 < 2 ^ 1; decide, ?_, by omega, ?_⟩ (colY f) ?_ ?_
  · intro c hc
    obtain ⟨j, hj, _, rfl⟩ := colX_mem.1 hc
    simp only
    omega
  · rw [free_iff (colX_fit f) _ _ _ (by decide)]
    intro c hc hr
    obtain ⟨j, hj, h3, rfl⟩ := colX_mem.1 hc
    simp only at hr
    omega
  · intro r' hr' k' hk'
    have e : k' < 2 := by
      have h : k' * 1 < 2 := hk'
      omega
    rw [Bool.eq_false_iff]
    intro h
    have := (free_iff (colX_fit f) _ _ _ (by simp; omega)).1 h ⟨f + r', r', 0, 1⟩ (colX_mem.2 ⟨r', by omega, by omega, rfl⟩) rfl
    simp at this
    omega
  · show (colY f).Perm (colX f ++ _)
    rw [colX_eq]
    unfold colY
    rw [List.append_assoc]
    exact List.Perm.append_left _ (List.perm_append_singleton _ _).symm
  · unfold colY SortC colN
    simp [List.range, List.range.loop]
theorem colY_rows (f : Nat) : rowsN (colY f) = 16 := by rfl
end Go.Proofs.Ytnokmbjgfglaoaa
