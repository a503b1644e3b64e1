/- What Unify makes of the cells. No program. -/
import Derived.Test.YtnokmbjgfglaoaaPlace
import Derived.Laws.OwnMore
set_option linter.unusedSimpArgs false
set_option linter.unusedVariables false
namespace Go.Proofs.Ytnokmbjgfglaoaa
open Go Go.RowKit

/-- The first row ahead of its own in which a cell has room. -/
def ahead (l : List Cel) (c : Cel) : Nat → Nat → Option Nat
  | 0, _ => none
  | d + 1, r => if r < c.row then (if freeAt l r c.s c.o = true then some r else ahead l c d (r + 1)) else none
def goAhead (l : List Cel) (c : Cel) : Option Nat := ahead l c (c.row + 1) 0
/-- Cell number i goes ahead, if it can. -/
def stepU (l : List Cel) (i : Nat) : List Cel × Nat :=
  match l[i]? with
  | none => (l, 0)
  | some c => match goAhead l c with
    | none => (l, 0)
    | some r => (l.set i { c with row := r }, 1)
def passU (l : List Cel) : Nat → List Cel × Nat
  | 0 => (l, 0)
  | i + 1 => ((stepU (passU l i).1 i).1, (passU l i).2 + (stepU (passU l i).1 i).2)

theorem stepU_len (l : List Cel) (i : Nat) : (stepU l i).1.length = l.length := by
  unfold stepU
  split
  · rfl
  · split
    · rfl
    · simp
theorem passU_len (l : List Cel) : ∀ i, (passU l i).1.length = l.length
  | 0 => rfl
  | i + 1 => by unfold passU; rw [stepU_len, passU_len l i]
theorem stepU_other (l : List Cel) (i j : Nat) (h : j ≠ i) : (stepU l i).1[j]? = l[j]? := by
  unfold stepU
  split
  · rfl
  · split
    · rfl
    · simp [List.getElem?_set, Ne.symm h]
theorem passU_later (l : List Cel) : ∀ i j, i ≤ j → (passU l i).1[j]? = l[j]?
  | 0, j, _ => rfl
  | i + 1, j, h => by unfold passU; rw [stepU_other _ _ _ (by omega), passU_later l i j (by omega)]
theorem stepU_n (l : List Cel) (i : Nat) : (stepU l i).2 ≤ 1 := by
  unfold stepU
  split
  · simp
  · split <;> simp
theorem passU_n (l : List Cel) : ∀ i, (passU l i).2 ≤ i
  | 0 => Nat.le_refl _
  | i + 1 => by unfold passU; have := passU_n l i; have := stepU_n (passU l i).1 i; simp only; omega

/-- Rows numbered anew: what is left, the last row, how many were met, the active one. -/
def renU (a : Nat) : List Cel → Int → Nat → Nat → List Cel × Nat
  | [], _, _, act => ([], act)
  | c :: l, last, cnt, act =>
    let cnt' := if (c.row : Int) = last then cnt else cnt + 1
    let act' := if c.row = a then cnt' - 1 else act
    ({ c with row := cnt' - 1 } :: (renU a l c.row cnt' act').1, (renU a l c.row cnt' act').2)

/-- One number of a cell is stored. -/
theorem OwnC.row_set {w : World} {g cap : Nat} {l : List Cel} (h : OwnC w (.slice (some ⟨g, 0, none⟩) l.length cap) l) (i : Nat) (c : Cel) (hi : l[i]? = some c) (r : Nat) :
    OwnC (w.setCell ⟨g, i * 4 + 1, none⟩ (.int .i64 (r : Int))) (.slice (some ⟨g, 0, none⟩) l.length cap) (l.set i { c with row := r }) := by
  have hil : i < l.length := (List.getElem?_eq_some_iff.1 hi).1
  have hc : l[i] = c := (List.getElem?_eq_some_iff.1 hi).2
  obtain ⟨hst, hgr⟩ := World.ownsRow.stored h (i * 4 + 1) (.int .i64 (r : Int))
  unfold OwnC
  rw [List.length_set]
  have e : (cv l).set (i * 4 + 1) (.int .i64 (r : Int)) = cv (l.set i { c with row := r }) := by
    have e1 : l = l.take i ++ (c :: l.drop (i + 1)) := by rw [← hc, List.getElem_cons_drop, List.take_append_drop]
    have hl : (cv (l.take i)).length = i * 4 := by rw [length_cv, List.length_take, Nat.min_eq_left (by omega)]
    have e2 : cv l = cv (l.take i) ++ cv (c :: l.drop (i + 1)) := by rw [← cv_append, ← e1]
    have e3 : l.set i { c with row := r } = l.take i ++ ({ c with row := r } :: l.drop (i + 1)) := by rw [List.set_eq_take_append_cons_drop, if_pos hil]
    rw [e3, cv_append, e2, List.set_append_right _ _ (by omega), hl, show i * 4 + 1 - i * 4 = 1 by omega]
    rfl
  rw [e] at hst
  exact hst
theorem OwnC.row_frozen {w : World} {g cap : Nat} {l : List Cel} (h : OwnC w (.slice (some ⟨g, 0, none⟩) l.length cap) l) (j : Nat) : w.frozen? ⟨g, j, none⟩ = false := by
  rcases h.2 with ⟨h', _⟩ | ⟨g', cap', cur, h', _, hg, _⟩
  · simp at h'
  · simp only [Value.slice.injEq, Option.some.injEq, Addr.mk.injEq, and_true, true_and] at h'
    obtain ⟨rfl, rfl⟩ := h'
    simp [World.frozen?, hg]
theorem MatAt.row_set {w : World} {mb g cap : Nat} {m : Mx} (h : MatAt w mb (.slice (some ⟨g, 0, none⟩) m.cells.length cap) m) (i : Nat) (c : Cel) (hi : m.cells[i]? = some c) (r : Nat) :
    MatAt (w.setCell ⟨g, i * 4 + 1, none⟩ (.int .i64 (r : Int))) mb (.slice (some ⟨g, 0, none⟩) m.cells.length cap) { m with cells := m.cells.set i { c with row := r } } ∧
    MStep w mb (.slice (some ⟨g, 0, none⟩) m.cells.length cap) (w.setCell ⟨g, i * 4 + 1, none⟩ (.int .i64 (r : Int))) (.slice (some ⟨g, 0, none⟩) m.cells.length cap) := by
  have hgm : g ≠ mb := fun e => h.off (by rw [← e]; rfl)
  have hk : Keeps (fun k => k = g) w (w.setCell ⟨g, i * 4 + 1, none⟩ (.int .i64 (r : Int))) := Keeps.setCell (Keeps.refl _ _) _ _ (.inl rfl)
  refine ⟨⟨?_, h.own.row_set i c hi r, h.off⟩, hk.mono fun k _ e => .inr (by rw [e]; rfl), fun k hk' => .inl hk'⟩
  rw [hk.block mb h.lt (Ne.symm hgm)]
  exact h.heap

theorem set_mem {l : List Cel} {i : Nat} {c d : Cel} (h : d ∈ l.set i c) : d = c ∨ d ∈ l := (List.mem_or_eq_of_mem_set h).symm
theorem stepU_fit {l : List Cel} (h : Fit l) (i : Nat) : Fit (stepU l i).1 := by
  unfold stepU
  split
  · exact h
  · rename_i c hc
    split
    · exact h
    · intro d hd
      rcases set_mem hd with rfl | hd
      · exact h c (List.mem_of_getElem? hc)
      · exact h d hd
theorem passU_fit {l : List Cel} (h : Fit l) : ∀ i, Fit (passU l i).1
  | 0 => h
  | i + 1 => stepU_fit (passU_fit h i) i
theorem ahead_lt {l : List Cel} {c : Cel} : ∀ {d r q : Nat}, ahead l c d r = some q → q < c.row
  | 0, _, _, h => by simp [ahead] at h
  | d + 1, r, q, h => by
    unfold ahead at h
    split at h
    · split at h
      · injection h with h; omega
      · exact ahead_lt h
    · simp at h
theorem passU_rows {l : List Cel} {N : Nat} (h : ∀ c ∈ l, c.row < N) : ∀ i, ∀ c ∈ (passU l i).1, c.row < N
  | 0 => h
  | i + 1 => by
    have ih := passU_rows h i
    unfold passU stepU
    split
    · exact ih
    · rename_i c hc
      split
      · exact ih
      · rename_i r hr
        intro d hd
        rcases set_mem hd with rfl | hd
        · have := ih c (List.mem_of_getElem? hc)
          have := ahead_lt hr
          simp only
          omega
        · exact ih d hd
end Go.Proofs.Ytnokmbjgfglaoaa
