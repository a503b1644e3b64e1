/- Place has one answer; sorted lists of cells that share nothing are one. A plain law. -/
import Derived.Test.YtnokmbjgfglaoaaGood
set_option linter.unusedSimpArgs false
set_option linter.unusedVariables false
namespace Go.Proofs.Ytnokmbjgfglaoaa
open Go Go.RowKit Go.Lib Go.Sort

theorem erase_perm (l : List Cel) (k : Nat) (hk : k < l.length) : l.Perm (l[k] :: l.eraseIdx k) := by
  have h := List.take_append_drop k l
  rw [List.drop_eq_getElem_cons hk] at h
  rw [List.eraseIdx_eq_take_drop_succ]
  exact (List.Perm.of_eq h.symm).trans List.perm_middle
theorem apart_eq {l : List Cel} (h : l.Pairwise Apart) {a b : Cel} (ha : a ∈ l) (hb : b ∈ l) (hr : a.row = b.row) (hs : a.s = b.s) : a = b := by
  obtain ⟨i, hi⟩ := List.mem_iff_getElem?.1 ha
  obtain ⟨j, hj⟩ := List.mem_iff_getElem?.1 hb
  obtain ⟨li, ei⟩ := List.getElem?_eq_some_iff.1 hi
  obtain ⟨lj, ej⟩ := List.getElem?_eq_some_iff.1 hj
  have pa := Nat.two_pow_pos a.o
  have pb := Nat.two_pow_pos b.o
  rw [List.pairwise_iff_getElem] at h
  rcases Nat.lt_trichotomy i j with hij | hij | hij
  · have h1 := h i j li lj hij
    rw [ei, ej] at h1
    have := h1 hr
    omega
  · subst hij
    rw [← ei, ← ej]
  · have h1 := h j i lj li hij
    rw [ei, ej] at h1
    have := h1 hr.symm
    omega
theorem sorted_eq {l l' : List Cel} (hp : l.Perm l') (hs : SortC l) (hs' : SortC l') (ha : l.Pairwise Apart) : l = l' := by
  unfold SortC at hs hs'
  refine List.Perm.eq_of_pairwise ?_ hs hs' hp
  intro a b h1 h2 h3 h4
  exact apart_eq ha h1 (hp.mem_iff.2 h2) (by omega) (by omega)

/-- The one that Place must take. -/
structure Takes (m : Mx) (on row k : Nat) : Prop where
  hrow : row < 16
  inn : k * 2 ^ on < 2 ^ m.n
  free : freeAt m.cells row (k * 2 ^ on) on = true
  start : ∀ k', k' < k → freeAt m.cells row (k' * 2 ^ on) on = false
  hrows : ∀ r', r' < row → ∀ k', k' * 2 ^ on < 2 ^ m.n → freeAt m.cells r' (k' * 2 ^ on) on = false
theorem place_takes {m m' : Mx} {id : Nat} {o : Int} {r : Cel} {e : Int} (hp : PlaceR m id o r e m') (hb : ¬ badArg m id o) (hi : ∀ c ∈ m.cells, c.id ≠ id) {row k : Nat} (ht : Takes m o.toNat row k) :
    e = 0 ∧ r = ⟨id, row, k * 2 ^ o.toNat, o.toNat⟩ ∧ m'.n = m.n ∧ m'.act = m.act ∧ m'.cells.Perm (m.cells ++ [r]) ∧ SortC m'.cells := by
  rcases hp with ⟨h, _⟩ | ⟨_, ⟨c, hc, h⟩, _⟩ | ⟨_, _, he, hpl⟩ | ⟨_, _, _, _, _, h⟩
  · exact absurd h hb
  · exact absurd h (hi c hc)
  · obtain ⟨k2, hk2, hst⟩ := hpl.start
    have hrow : r.row = row := by
      rcases Nat.lt_trichotomy r.row row with h | h | h
      · have h1 := ht.hrows _ h k2 (by rw [← hk2]; exact hpl.inn)
        rw [← hk2, hpl.free] at h1
        cases h1
      · exact h
      · have h1 := hpl.rows _ h k ht.inn
        rw [ht.free] at h1
        cases h1
    have hk : k2 = k := by
      rcases Nat.lt_trichotomy k2 k with h | h | h
      · have h1 := ht.start _ h
        rw [← hk2, ← hrow, hpl.free] at h1
        cases h1
      · exact h
      · have h1 := hst _ h
        rw [hrow, ht.free] at h1
        cases h1
    have h1 := hpl.r_id
    have h2 := hpl.r_o
    refine ⟨he, ?_, hpl.same.1, hpl.same.2, hpl.perm, hpl.sort⟩
    obtain ⟨a, b, c, d⟩ := r
    simp only at h1 h2 hrow hk2
    rw [h1, h2, hrow, hk2, hk]
  · have h1 := h row ht.hrow k ht.inn
    rw [ht.free] at h1
    cases h1
/-- What comes out is known, if it is sorted. -/
theorem takes_cells {m m' : Mx} {id : Nat} {o : Int} {r : Cel} {e : Int} (hg : Good m) (hp : PlaceR m id o r e m') (hb : ¬ badArg m id o) (hi : ∀ c ∈ m.cells, c.id ≠ id) {row k : Nat} (ht : Takes m o.toNat row k)
    (l : List Cel) (hl : l.Perm (m.cells ++ [⟨id, row, k * 2 ^ o.toNat, o.toNat⟩])) (hs : SortC l) : e = 0 ∧ r = ⟨id, row, k * 2 ^ o.toNat, o.toNat⟩ ∧ m' = ⟨m.n, l, m.act⟩ := by
  have hgood := (good_place hg hp).1
  obtain ⟨h1, h2, h3, h4, h5, h6⟩ := place_takes hp hb hi ht
  refine ⟨h1, h2, ?_⟩
  have h7 : m'.cells = l := sorted_eq (h5.trans (by rw [h2]; exact hl.symm)) h6 hs hgood.apart
  obtain ⟨a, b, c⟩ := m'
  simp only at h3 h4 h7
  rw [h3, h4, h7]

/-- Place, then Remove: as it was. -/
theorem place_remove {m m' : Mx} {id : Nat} {o : Int} {r : Cel} (hg : Good m) (hp : PlaceR m id o r 0 m') : (removeM m' id).2 = 0 ∧ (removeM m' id).1.cells = m.cells ∧ (∀ c ∈ (removeM m' id).1.cells, c.id ≠ id) := by
  have hgood := (good_place hg hp).1
  rcases hp with ⟨_, _, h, _⟩ | ⟨_, _, _, h, _⟩ | ⟨hb, hi, _, hpl⟩ | ⟨_, _, _, h, _⟩
  · cases h
  · cases h
  · have hmr : r ∈ m'.cells := by rw [hpl.perm.mem_iff]; simp
    have hsub := fun k => (List.eraseIdx_sublist (l := m'.cells) (k := k))
    rcases atI_cases m'.cells id with ⟨_, h⟩ | ⟨k, c, hk, hc, ha⟩
    · exact absurd hpl.r_id (h r hmr)
    · unfold removeM
      rw [if_neg (by rw [ha]; omega)]
      simp only
      rw [ha, Int.toNat_natCast]
      obtain ⟨lk, ek⟩ := List.getElem?_eq_some_iff.1 hk
      have hcm : c ∈ m'.cells := List.mem_of_getElem? hk
      have hcr : c = r := by
        rcases (hpl.perm.mem_iff.1 hcm) |> List.mem_append.1 with h | h
        · exact absurd hc (hi c h)
        · simpa using h
      have hpe : (m'.cells.eraseIdx k).Perm m.cells := by
        have h1 : m'.cells.Perm (c :: m'.cells.eraseIdx k) := by
          rw [← ek]; exact erase_perm m'.cells k lk
        have h2 : m'.cells.Perm (r :: m.cells) := hpl.perm.trans (List.perm_append_singleton _ _)
        rw [hcr] at h1
        exact (h1.symm.trans h2).cons_inv
      have he : m'.cells.eraseIdx k = m.cells := sorted_eq hpe (List.Pairwise.sublist (hsub k) hpl.sort) hg.sort (List.Pairwise.sublist (hsub k) hgood.apart)
      exact ⟨trivial, he, fun c hc => hi c (by rw [← he]; exact hc)⟩
  · cases h
end Go.Proofs.Ytnokmbjgfglaoaa
