/- What every matrix of a walk is: a plain law, kept by Place, Remove, Turn and Unify. -/
import Derived.Test.YtnokmbjgfglaoaaRuns
set_option linter.unusedSimpArgs false
set_option linter.unusedVariables false
namespace Go.Proofs.Ytnokmbjgfglaoaa
open Go Go.RowKit Go.Lib Go.Sort

def Apart (c d : Cel) : Prop := c.row = d.row → c.s + 2 ^ c.o ≤ d.s ∨ d.s + 2 ^ d.o ≤ c.s
theorem Apart.symm {c d : Cel} (h : Apart c d) : Apart d c := fun e => (h e.symm).symm
structure Good (m : Mx) : Prop where
  n : m.n ≤ 10
  rows : ∀ c ∈ m.cells, c.row < 16
  al : ∀ c ∈ m.cells, c.o ≤ m.n ∧ c.s + 2 ^ c.o ≤ 2 ^ m.n ∧ ∃ k, c.s = k * 2 ^ c.o
  nz : ∀ c ∈ m.cells, c.id ≠ 0
  ids : (m.cells.map (·.id)).Nodup
  apart : m.cells.Pairwise Apart
  sort : SortC m.cells
  act : m.act = 0 ∨ ∃ c ∈ m.cells, m.act ≤ c.row

theorem Good.fit {m : Mx} (h : Good m) : Fit m.cells := fun c hc => by
  obtain ⟨h1, h2, _⟩ := h.al c hc
  have h3 : 2 ^ m.n ≤ 2 ^ 10 := Nat.pow_le_pow_right (by omega) h.n
  have := h.n
  exact ⟨by omega, by omega⟩
theorem Good.act_lt {m : Mx} (h : Good m) : m.act < 16 := by
  rcases h.act with e | ⟨c, hc, h1⟩
  · omega
  · have := h.rows c hc; omega

theorem free_iff {l : List Cel} (hf : Fit l) (row s o : Nat) (hs : s + 2 ^ o ≤ 1024) :
    freeAt l row s o = true ↔ ∀ c ∈ l, c.row = row → c.s + 2 ^ c.o ≤ s ∨ s + 2 ^ o ≤ c.s := by
  have hp := Nat.two_pow_pos o
  unfold freeAt
  rw [Bool.not_eq_true', Bool.eq_false_iff, ne_eq, meetsB_iff]
  constructor
  · intro h c hc hr
    have hpc := Nat.two_pow_pos c.o
    have hfc := (hf c hc).2
    by_cases hh : c.s + 2 ^ c.o ≤ s ∨ s + 2 ^ o ≤ c.s
    · exact hh
    · refine absurd ⟨max c.s s, by omega, ?_, by unfold inS; exact decide_eq_true (by omega)⟩ h
      unfold rowF
      rw [List.any_eq_true]
      refine ⟨c, hc, ?_⟩
      rw [Bool.and_eq_true]
      exact ⟨decide_eq_true (by omega), by unfold inS; exact decide_eq_true (by omega)⟩
  · rintro h ⟨u, hu, h1, h2⟩
    unfold rowF at h1
    rw [List.any_eq_true] at h1
    obtain ⟨c, hc, h3⟩ := h1
    rw [Bool.and_eq_true] at h3
    have h4 := of_decide_eq_true h3.1
    have h5 := h3.2
    unfold inS at h5 h2
    have h5 := of_decide_eq_true h5
    have h2 := of_decide_eq_true h2
    have := h c hc (by omega)
    omega

theorem good_new (n : Nat) (hn : n ≤ 10) : Good ⟨n, [], 0⟩ :=
  ⟨hn, by simp, by simp, by simp, by simp, List.Pairwise.nil, List.Pairwise.nil, .inl rfl⟩

theorem good_place {m m' : Mx} {id : Nat} {o : Int} {r : Cel} {e : Int} (h : Good m) (hp : PlaceR m id o r e m') : Good m' ∧ m'.cells.length ≤ m.cells.length + 1 := by
  rcases hp with ⟨_, _, _, rfl⟩ | ⟨_, _, _, _, rfl⟩ | ⟨hb, hi, _, hpl⟩ | ⟨_, _, _, _, rfl, _⟩
  · exact ⟨h, by omega⟩
  · exact ⟨h, by omega⟩
  · obtain ⟨hid, ho0, hon⟩ := bad_iff hb
    obtain ⟨on, hon'⟩ : ∃ on, on = o.toNat := ⟨_, rfl⟩
    rw [← hon'] at hpl
    have honn : on ≤ m.n := by omega
    have hlt := h.n
    have hpow : 2 ^ on ≤ 2 ^ m.n := Nat.pow_le_pow_right (by omega) honn
    obtain ⟨k, hk, _⟩ := hpl.start
    have hend : r.s + 2 ^ on ≤ 2 ^ m.n := by
      obtain ⟨d, hd⟩ := Nat.exists_eq_add_of_le honn
      have hin := hpl.inn
      rw [hk] at hin ⊢
      rw [hd, Nat.pow_add] at hin ⊢
      rw [Nat.mul_comm] at hin
      have h1 := Nat.lt_of_mul_lt_mul_left hin
      have h2 : (k + 1) * 2 ^ on ≤ 2 ^ d * 2 ^ on := Nat.mul_le_mul_right _ h1
      rw [Nat.add_mul, Nat.one_mul] at h2
      rw [Nat.mul_comm (2 ^ on)]
      exact h2
    have h10 : 2 ^ m.n ≤ 2 ^ 10 := Nat.pow_le_pow_right (by omega) h.n
    have hfr := (free_iff h.fit r.row r.s on (by omega)).1 hpl.free
    have hmem : ∀ c, c ∈ m'.cells ↔ c ∈ m.cells ∨ c = r := fun c => by rw [hpl.perm.mem_iff]; simp
    refine ⟨⟨by rw [hpl.same.1]; exact h.n, ?_, ?_, ?_, ?_, ?_, hpl.sort, ?_⟩, ?_⟩
    · intro c hc
      rcases (hmem c).1 hc with hc | rfl
      · exact h.rows c hc
      · exact hpl.row
    · intro c hc
      rw [hpl.same.1]
      rcases (hmem c).1 hc with hc | rfl
      · exact h.al c hc
      · rw [hpl.r_o]; exact ⟨honn, hend, k, hk⟩
    · intro c hc
      rcases (hmem c).1 hc with hc | rfl
      · exact h.nz c hc
      · rw [hpl.r_id]; exact hid
    · rw [(hpl.perm.map _).nodup_iff, List.map_append, List.nodup_append]
      refine ⟨h.ids, by simp, ?_⟩
      intro x hx y hy
      simp only [List.map_cons, List.map_nil, List.mem_singleton] at hy
      obtain ⟨c, hc, rfl⟩ := List.mem_map.1 hx
      rw [hy, hpl.r_id]
      exact hi c hc
    · rw [hpl.perm.pairwise_iff (fun h => h.symm), List.pairwise_append]
      refine ⟨h.apart, by simp, ?_⟩
      intro c hc d hd
      rw [List.mem_singleton] at hd
      subst hd
      intro e
      rw [hpl.r_o]
      exact hfr c hc e
    · rw [hpl.same.2]
      rcases h.act with e | ⟨c, hc, h1⟩
      · exact .inl e
      · exact .inr ⟨c, (hmem c).2 (.inl hc), h1⟩
    · rw [hpl.perm.length_eq]; simp
  · exact ⟨h, by omega⟩

theorem rowsN_iff {l : List Cel} {a : Nat} (h : a < rowsN l) : ∃ c ∈ l, a ≤ c.row := by
  unfold rowsN at h
  cases hx : l[l.length - 1]? with
  | none =>
    have : l = [] := by
      cases l with
      | nil => rfl
      | cons x t => simp at hx
    subst this
    simp [lastRow] at h
  | some c =>
    rw [lastRow_eq _ _ hx] at h
    exact ⟨c, List.mem_of_getElem? hx, by simp only at h; omega⟩

theorem good_turn {m : Mx} (h : Good m) : Good (turnM m) := by
  refine ⟨h.n, h.rows, h.al, h.nz, h.ids, h.apart, h.sort, ?_⟩
  show (if m.act + 1 ≥ rowsN m.cells then 0 else m.act + 1) = 0 ∨ _
  split
  · exact .inl rfl
  · rename_i hh
    obtain ⟨c, hc, h1⟩ := rowsN_iff (show m.act + 1 < rowsN m.cells by omega)
    refine .inr ⟨c, hc, ?_⟩
    show (if m.act + 1 ≥ rowsN m.cells then 0 else m.act + 1) ≤ c.row
    rw [if_neg hh]
    exact h1

theorem good_remove {m : Mx} (h : Good m) (id : Nat) : Good (removeM m id).1 ∧ (removeM m id).1.cells.length ≤ m.cells.length := by
  unfold removeM
  split
  · exact ⟨h, Nat.le_refl _⟩
  · obtain ⟨k, hk⟩ : ∃ k, k = (atI m.cells id).toNat := ⟨_, rfl⟩
    rw [← hk]
    have hsub : (m.cells.eraseIdx k).Sublist m.cells := List.eraseIdx_sublist _ _
    refine ⟨⟨h.n, fun c hc => h.rows c (hsub.mem hc), fun c hc => h.al c (hsub.mem hc), fun c hc => h.nz c (hsub.mem hc), h.ids.sublist (hsub.map _), h.apart.sublist hsub, List.Pairwise.sublist hsub h.sort, ?_⟩, hsub.length_le⟩
    show (if m.act ≥ rowsN (m.cells.eraseIdx k) then 0 else m.act) = 0 ∨ _
    split
    · exact .inl rfl
    · rename_i hh
      obtain ⟨c, hc, h1⟩ := rowsN_iff (show m.act < rowsN (m.cells.eraseIdx k) by omega)
      exact .inr ⟨c, hc, h1⟩

/-! ## Unify. -/
theorem stepU_mem {l : List Cel} {i : Nat} : ∀ d ∈ (stepU l i).1, ∃ c ∈ l, d.id = c.id ∧ d.s = c.s ∧ d.o = c.o := by
  intro d hd
  unfold stepU at hd
  split at hd
  · exact ⟨d, hd, rfl, rfl, rfl⟩
  · rename_i c hc
    split at hd
    · exact ⟨d, hd, rfl, rfl, rfl⟩
    · rename_i r hr
      rcases set_mem hd with rfl | hd
      · exact ⟨c, List.mem_of_getElem? hc, rfl, rfl, rfl⟩
      · exact ⟨d, hd, rfl, rfl, rfl⟩
theorem stepU_ids (l : List Cel) (i : Nat) : (stepU l i).1.map (·.id) = l.map (·.id) := by
  unfold stepU
  split
  · rfl
  · rename_i c hc
    split
    · rfl
    · rename_i r hr
      apply List.ext_getElem?
      intro j
      simp only [List.getElem?_map, List.getElem?_set]
      split
      · rename_i e
        subst e
        split
        · simp [hc]
        · rename_i hh
          rw [List.getElem?_eq_none (by omega)]
      · rfl
theorem ahead_free {l : List Cel} {c : Cel} : ∀ {d r q : Nat}, ahead l c d r = some q → freeAt l q c.s c.o = true
  | 0, r, q, h => by simp [ahead] at h
  | d + 1, r, q, h => by
    unfold ahead at h
    split at h
    · split at h
      · rename_i h1
        have e : r = q := Option.some.inj h
        rw [← e]; exact h1
      · exact ahead_free h
    · simp at h
theorem stepU_apart {l : List Cel} (hf : Fit l) (h : l.Pairwise Apart) (i : Nat) : (stepU l i).1.Pairwise Apart := by
  unfold stepU
  split
  · exact h
  · rename_i c hc
    split
    · exact h
    · rename_i r hr
      have hfr := (free_iff hf r c.s c.o (hf c (List.mem_of_getElem? hc)).2).1 (ahead_free hr)
      rw [List.pairwise_iff_getElem] at h ⊢
      intro a b ha hb hab
      rw [List.length_set] at ha hb
      rw [List.getElem_set, List.getElem_set]
      split
      · rename_i e1
        rw [if_neg (by omega)]
        intro e
        exact (hfr _ (List.getElem_mem hb) e.symm).symm
      · split
        · intro e
          exact hfr _ (List.getElem_mem ha) e
        · exact h a b ha hb hab
theorem passU_mem {l : List Cel} : ∀ i, ∀ d ∈ (passU l i).1, ∃ c ∈ l, d.id = c.id ∧ d.s = c.s ∧ d.o = c.o
  | 0, d, hd => ⟨d, hd, rfl, rfl, rfl⟩
  | i + 1, d, hd => by
    obtain ⟨c, hc, h1, h2, h3⟩ := stepU_mem d hd
    obtain ⟨e, he, g1, g2, g3⟩ := passU_mem i c hc
    exact ⟨e, he, h1.trans g1, h2.trans g2, h3.trans g3⟩
theorem passU_ids (l : List Cel) : ∀ i, (passU l i).1.map (·.id) = l.map (·.id)
  | 0 => rfl
  | i + 1 => (stepU_ids _ i).trans (passU_ids l i)
theorem passU_apart {l : List Cel} (hf : Fit l) (h : l.Pairwise Apart) : ∀ i, (passU l i).1.Pairwise Apart
  | 0 => h
  | i + 1 => stepU_apart (passU_fit hf i) (passU_apart hf h i) i

/-- What the numbering anew makes of a list. -/
structure RenOf (l l' : List Cel) (last : Int) (cnt : Nat) : Prop where
  len : l'.length = l.length
  one : ∀ (j : Nat) (c : Cel), l[j]? = some c → ∃ r, l'[j]? = some { c with row := r } ∧ r ≤ c.row ∧ cnt ≤ r + 1 ∧ (r + 1 = cnt ↔ (c.row : Int) = last)
  two : ∀ (i j : Nat) (c d c' d' : Cel), i < j → l[i]? = some c → l[j]? = some d → l'[i]? = some c' → l'[j]? = some d' → c'.row ≤ d'.row ∧ (c'.row = d'.row ↔ c.row = d.row)
theorem ren_of : ∀ (l : List Cel) (a : Nat) (last : Int) (cnt act : Nat), l.Pairwise (fun x y => x.row ≤ y.row) → (∀ c ∈ l, last ≤ (c.row : Int)) → (cnt : Int) ≤ last + 1 → (cnt = 0 → last < 0) → RenOf l (renU a l last cnt act).1 last cnt
  | [], a, last, cnt, act, _, _, _, _ => ⟨rfl, fun j c h => by simp at h, fun i j c d c' d' _ h => by simp at h⟩
  | c :: l, a, last, cnt, act, hs, hl, hc, h0 => by
    obtain ⟨hs1, hs2⟩ := List.pairwise_cons.1 hs
    obtain ⟨cnt', hcnt'⟩ : ∃ cnt', cnt' = if (c.row : Int) = last then cnt else cnt + 1 := ⟨_, rfl⟩
    obtain ⟨act', hact'⟩ : ∃ act', act' = if c.row = a then cnt' - 1 else act := ⟨_, rfl⟩
    have hlc := hl c List.mem_cons_self
    have hb : (cnt' : Int) ≤ (c.row : Int) + 1 ∧ 1 ≤ cnt' ∧ cnt ≤ cnt' ∧ (cnt' = cnt ↔ (c.row : Int) = last) := by
      rw [hcnt']
      split
      · rename_i e
        have : cnt ≠ 0 := fun e0 => by have := h0 e0; omega
        omega
      · omega
    have ih := ren_of l a (c.row : Int) cnt' act' hs2 (fun d hd => by have := hs1 d hd; omega) hb.1 (by omega)
    have he : (renU a (c :: l) last cnt act).1 = { c with row := cnt' - 1 } :: (renU a l (c.row : Int) cnt' act').1 := by
      rw [hact', hcnt']; rfl
    rw [he]
    refine ⟨by simp [ih.len], ?_, ?_⟩
    · intro j d hd
      cases j with
      | zero =>
        simp only [List.getElem?_cons_zero, Option.some.injEq] at hd
        subst hd
        exact ⟨cnt' - 1, rfl, by omega, by omega, by rw [← hb.2.2.2]; omega⟩
      | succ j =>
        simp only [List.getElem?_cons_succ] at hd ⊢
        obtain ⟨r, h1, h2, h3, h4⟩ := ih.one j d hd
        have hge := hs1 d (List.mem_of_getElem? hd)
        refine ⟨r, h1, h2, by omega, ?_⟩
        constructor
        · intro e
          have h5 : (c.row : Int) = last := hb.2.2.2.1 (by omega)
          have h6 := h4.1 (by omega)
          omega
        · intro e
          have h5 : (c.row : Int) = last := by omega
          have := hb.2.2.2.2 h5
          have := h4.2 (by omega)
          omega
    · intro i j x y x' y' hij hx hy hx' hy'
      cases j with
      | zero => omega
      | succ j =>
        simp only [List.getElem?_cons_succ] at hy hy'
        cases i with
        | zero =>
          simp only [List.getElem?_cons_zero, Option.some.injEq] at hx hx'
          subst hx; subst hx'
          obtain ⟨r, h1, h2, h3, h4⟩ := ih.one j y hy
          rw [h1] at hy'
          injection hy' with hy'
          subst hy'
          simp only
          omega
        | succ i =>
          simp only [List.getElem?_cons_succ] at hx hx'
          exact ih.two i j x y x' y' (by omega) hx hy hx' hy'
theorem ren_act : ∀ (l : List Cel) (a : Nat) (last : Int) (cnt act : Nat), (renU a l last cnt act).2 = act ∨ ∃ c ∈ (renU a l last cnt act).1, (renU a l last cnt act).2 ≤ c.row
  | [], a, last, cnt, act => .inl rfl
  | c :: l, a, last, cnt, act => by
    unfold renU
    simp only
    generalize (if (c.row : Int) = last then cnt else cnt + 1) = cnt'
    rcases ren_act l a (c.row : Int) cnt' (if c.row = a then cnt' - 1 else act) with h | ⟨d, hd, h⟩
    · rw [h]
      split
      · exact .inr ⟨_, List.mem_cons_self, Nat.le_refl _⟩
      · exact .inl rfl
    · exact .inr ⟨d, List.mem_cons_of_mem _ hd, h⟩
theorem sort_rows {l : List Cel} (h : SortC l) : l.Pairwise (fun x y => x.row ≤ y.row) := h.imp fun h => by omega

theorem good_uni {m m' : Mx} {n : Nat} (h : Good m) (hu : UniR m m' n) : Good m' ∧ m'.cells.length = m.cells.length := by
  obtain ⟨l2, hp, hs, rfl, _⟩ := hu
  obtain ⟨N, hN⟩ : ∃ N, N = m.cells.length := ⟨_, rfl⟩
  rw [← hN] at hp ⊢
  have hr := ren_of l2 m.act (-1) 0 0 (sort_rows hs) (fun c _ => by omega) (by omega) (by omega)
  have ha := ren_act l2 m.act (-1) 0 0
  obtain ⟨l3, hl3⟩ : ∃ l3, l3 = renU m.act l2 (-1) 0 0 := ⟨_, rfl⟩
  rw [← hl3] at hr ha ⊢
  have hlen : l2.length = N := by rw [hp.length_eq, passU_len, hN]
  have hback : ∀ d ∈ l3.1, ∃ c ∈ l2, d = { c with row := d.row } ∧ d.row ≤ c.row := by
    intro d hd
    obtain ⟨j, hj⟩ := List.mem_iff_getElem?.1 hd
    have hjl : j < l2.length := by rw [← hr.len]; exact (List.getElem?_eq_some_iff.1 hj).1
    obtain ⟨r, h1, h2, _⟩ := hr.one j _ (List.getElem?_eq_getElem hjl)
    rw [hj] at h1
    injection h1 with h1
    exact ⟨_, List.getElem_mem hjl, by rw [h1], by rw [h1]; exact h2⟩
  have hback2 : ∀ d ∈ l3.1, ∃ c ∈ m.cells, d.id = c.id ∧ d.s = c.s ∧ d.o = c.o := by
    intro d hd
    obtain ⟨c, hc, h1, _⟩ := hback d hd
    obtain ⟨e, he, g⟩ := passU_mem N c (hp.mem_iff.1 hc)
    exact ⟨e, he, by rw [h1]; exact g⟩
  have hids : l3.1.map (·.id) = l2.map (·.id) := by
    apply List.ext_getElem?
    intro j
    simp only [List.getElem?_map]
    cases hj : l2[j]? with
    | none => rw [List.getElem?_eq_none (by rw [hr.len]; exact List.getElem?_eq_none_iff.1 hj)]
    | some c =>
      obtain ⟨r, h1, _⟩ := hr.one j c hj
      rw [h1]; rfl
  have hap2 : l2.Pairwise Apart := by
    rw [hp.pairwise_iff (fun h => h.symm)]
    exact passU_apart h.fit h.apart N
  refine ⟨⟨h.n, ?_, ?_, ?_, ?_, ?_, ?_, ?_⟩, by rw [hr.len, hlen]⟩
  · intro d hd
    obtain ⟨c, hc, _, h2⟩ := hback d hd
    have := passU_rows h.rows N c (hp.mem_iff.1 hc)
    omega
  · intro d hd
    obtain ⟨c, hc, _, h2, h3⟩ := hback2 d hd
    rw [h2, h3]
    exact h.al c hc
  · intro d hd
    obtain ⟨c, hc, h1, _⟩ := hback2 d hd
    rw [h1]
    exact h.nz c hc
  · show (l3.1.map (·.id)).Nodup
    rw [hids, (hp.map _).nodup_iff, passU_ids]
    exact h.ids
  · show l3.1.Pairwise Apart
    rw [List.pairwise_iff_getElem] at hap2 ⊢
    intro a b hla hlb hab
    have la : a < l2.length := by rw [← hr.len]; exact hla
    have lb : b < l2.length := by rw [← hr.len]; exact hlb
    obtain ⟨ra, e1, _⟩ := hr.one a _ (List.getElem?_eq_getElem la)
    obtain ⟨rb, e2, _⟩ := hr.one b _ (List.getElem?_eq_getElem lb)
    have h2 := hr.two a b _ _ _ _ hab (List.getElem?_eq_getElem la) (List.getElem?_eq_getElem lb) (List.getElem?_eq_getElem hla) (List.getElem?_eq_getElem hlb)
    rw [List.getElem?_eq_getElem hla] at e1
    rw [List.getElem?_eq_getElem hlb] at e2
    injection e1 with e1
    injection e2 with e2
    intro e
    have h3 := hap2 a b la lb hab (h2.2.1 e)
    rw [e1, e2]
    exact h3
  · show SortC l3.1
    unfold SortC at hs ⊢
    rw [List.pairwise_iff_getElem] at hs ⊢
    intro a b hla hlb hab
    have la : a < l2.length := by rw [← hr.len]; exact hla
    have lb : b < l2.length := by rw [← hr.len]; exact hlb
    obtain ⟨ra, e1, _⟩ := hr.one a _ (List.getElem?_eq_getElem la)
    obtain ⟨rb, e2, _⟩ := hr.one b _ (List.getElem?_eq_getElem lb)
    have h2 := hr.two a b _ _ _ _ hab (List.getElem?_eq_getElem la) (List.getElem?_eq_getElem lb) (List.getElem?_eq_getElem hla) (List.getElem?_eq_getElem hlb)
    have h3 := hs a b la lb hab
    rw [List.getElem?_eq_getElem hla] at e1
    rw [List.getElem?_eq_getElem hlb] at e2
    injection e1 with e1
    injection e2 with e2
    rintro (g | ⟨g1, g2⟩)
    · omega
    · have g3 := h2.2.1 g1.symm
      refine h3 (.inr ⟨g3.symm, ?_⟩)
      rw [e1, e2] at g2
      exact g2
  · rcases ha with e | ⟨c, hc, e⟩
    · exact .inl e
    · exact .inr ⟨c, hc, e⟩
end Go.Proofs.Ytnokmbjgfglaoaa
