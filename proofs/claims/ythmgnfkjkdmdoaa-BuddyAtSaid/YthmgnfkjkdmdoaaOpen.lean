/- Contracts: in, the closure of open, slices.IndexFunc and slices.ContainsFunc with it, open. -/
import Derived.Test.YthmgnfkjkdmdoaaLay
set_option linter.unusedSimpArgs false
set_option linter.unusedVariables false
namespace Go.Proofs.Ythmgnfkjkdmdoaa
open Go Go.RowKit Bud

def inB (b : Blk) (x : Int) : Bool := decide ((b.s : Int) ≤ x ∧ x < (b.s : Int) + ((2 ^ b.o : Nat) : Int))

set_option maxHeartbeats 2000000 in
set_option maxRecDepth 100000 in
theorem in_calls (b : Blk) (x : Int) (w : World) (ho : b.o ≤ 10) (hs : b.s < 4294967296) :
    Calls Try.prog 38 #[.agg #[.int .i64 (b.s : Int), .int .i64 (b.o : Int)], .int .i64 x] w fun e w' => e = .returned (.bool (inB b x)) ∧ Below w.heap.size w w' := by
  obtain ⟨s, o⟩ := b
  simp only at ho hs ⊢
  obtain ⟨P, hP⟩ : ∃ P, P = 2 ^ o := ⟨_, rfl⟩
  have hPl : P ≤ 1024 := by rw [hP]; exact Nat.pow_le_pow_right (by omega) (show o ≤ 10 by omega)
  have hsz : ∀ W, Calls Try.prog 54 #[.int .i64 (o : Int)] W fun e w' => e = .returned (.int .i64 (P : Int)) ∧ w' = W := fun W => by rw [hP]; exact size_calls o (by omega) W
  have hr : inB ⟨s, o⟩ x = decide ((s : Int) ≤ x ∧ x < (s : Int) + (P : Int)) := by rw [hP]; rfl
  rw [hr]
  have hwr : IntKind.i64.wrap ((s : Int) + (P : Int)) = (s : Int) + (P : Int) := by rw [IntKind.wrap_i64]; omega
  clear hr hP
  obtain ⟨B, hB⟩ : ∃ B, B = w.heap.size := ⟨_, rfl⟩
  obtain ⟨W1, hW1⟩ : ∃ W1, W1 = w.alloc (.cells #[.int .i64 (s : Int), .int .i64 (o : Int)] 31) := ⟨_, rfl⟩
  have hb : W1.heap[B]? = some (.cells #[.int .i64 (s : Int), .int .i64 (o : Int)] 31 (0, 0)) := by rw [hW1, hB]; exact box_heap _ _ _
  have hbl : Hid (Below w.heap.size w W1) := by rw [hW1]; exact below_alloc' _ _
  obtain ⟨c0, c1⟩ := two_cells hb
  clear hb
  have HW := Lib.hid hW1
  clear hW1
  have HB := Lib.hid hB
  by_cases h1 : (s : Int) ≤ x
  · have g1 : decide ((s : Int) ≤ x) = true := by simpa using h1
    by_cases h2 : x < (s : Int) + (P : Int)
    all_goals
      have g2 : decide ((s : Int) ≤ x ∧ x < (s : Int) + (P : Int)) = decide (x < (s : Int) + (P : Int)) := by simp [h1]
      rw [g2]
      clear g2
      go_enter Try.func38, Try.ntmps38
      go_wp2_with fail
      rw [← HW.out, ← hB]
      clear hB
      refine Thr.drawn [(0, false), (1, false), (2, false), (3, false), (4, false), (5, false), (6, false), (7, false), (8, false), (9, false), (10, true), (11, false), (12, false), (13, false), (14, false)] 15
        (fun w' => w'.cell? ⟨B, 0, none⟩ = some (.int .i64 (s : Int)) ∧ w'.cell? ⟨B, 1, none⟩ = some (.int .i64 (o : Int))) (by kernel_rfl) (by kernel_rfl) (fun c a w d v h => by cases d <;> exact h) ⟨c0, c1⟩ ?_
      simp only [Thr.pick, Array.reduceGetElem?]
      iterate 5
        apply Thr.read rfl
        · intro w' hS
          go_simp
          (repeat rw [if_pos (by omega)])
          try with_reducible rfl
        simp only [Act.put, List.setIfInBounds_toArray, List.set_cons_zero, List.set_cons_succ]
      iterate 5
        apply Thr.readG rfl
        · intro w' hS
          go_simp
          (repeat rw [if_pos (by omega)])
          try with_reducible rfl
        simp only [Act.put, List.setIfInBounds_toArray, List.set_cons_zero, List.set_cons_succ]
      apply Thr.actG rfl
      intro K hK
      go_simp
      refine (hsz _).mono ?_
      rintro e w' ⟨rfl, rfl⟩
      refine hK _ _ ⟨c0, c1⟩ ?_
      clear hK K
      try simp only [Act.put, List.setIfInBounds_toArray, List.set_cons_zero, List.set_cons_succ]
      iterate 2
        apply Thr.readG rfl
        · intro w' hS
          go_simp
          (repeat rw [if_pos (by omega)])
          try with_reducible rfl
        simp only [Act.put, List.setIfInBounds_toArray, List.set_cons_zero, List.set_cons_succ]
      iterate 2
        apply Thr.read rfl
        · intro w' hS
          go_simp
          (repeat rw [if_pos (by omega)])
          try with_reducible rfl
        simp only [Act.put, List.setIfInBounds_toArray, List.set_cons_zero, List.set_cons_succ]
      refine Thr.done ?_
      go_wp2_with fail
      go_ret
      exact ⟨by simp [h2], hbl.out.drew⟩
  · have g1 : decide ((s : Int) ≤ x) = false := by simpa using h1
    have g2 : decide ((s : Int) ≤ x ∧ x < (s : Int) + (P : Int)) = false := by simp [h1]
    rw [g2]
    clear g2
    have h1' : x < (s : Int) := by omega
    go_enter Try.func38, Try.ntmps38
    go_wp2_with fail
    rw [← HW.out, ← hB]
    clear hB
    refine Thr.drawn [(0, false), (1, false), (2, false), (3, false), (4, false), (5, false), (6, false), (7, false), (8, false), (9, false), (10, true), (11, false), (12, false), (13, false), (14, false)] 15
      (fun w' => w'.cell? ⟨B, 0, none⟩ = some (.int .i64 (s : Int)) ∧ w'.cell? ⟨B, 1, none⟩ = some (.int .i64 (o : Int))) (by kernel_rfl) (by kernel_rfl) (fun c a w d v h => by cases d <;> exact h) ⟨c0, c1⟩ ?_
    simp only [Thr.pick, Array.reduceGetElem?]
    iterate 5
      apply Thr.read rfl
      · intro w' hS
        go_simp
        (repeat rw [if_pos (by omega)])
        try with_reducible rfl
      simp only [Act.put, List.setIfInBounds_toArray, List.set_cons_zero, List.set_cons_succ]
    iterate 5
      apply Thr.skipG rfl
      simp only [Act.put, List.setIfInBounds_toArray, List.set_cons_zero, List.set_cons_succ]
    refine Thr.skipA rfl ⟨c0, c1⟩ ?_
    simp only [Act.put, List.setIfInBounds_toArray, List.set_cons_zero, List.set_cons_succ]
    iterate 2
      apply Thr.skipG rfl
      simp only [Act.put, List.setIfInBounds_toArray, List.set_cons_zero, List.set_cons_succ]
    iterate 2
      apply Thr.read rfl
      · intro w' hS
        go_simp
        (repeat rw [if_pos (by omega)])
        try with_reducible rfl
      simp only [Act.put, List.setIfInBounds_toArray, List.set_cons_zero, List.set_cons_succ]
    refine Thr.done ?_
    go_wp2_with fail
    go_ret
    exact ⟨rfl, hbl.out.drew⟩

set_option maxHeartbeats 1000000 in
set_option maxRecDepth 100000 in
/-- The function that open hands to slices.ContainsFunc. -/
theorem closure70 (b : Blk) (x B : Nat) (w : World) (ho : b.o ≤ 10) (hs : b.s < 4294967296) (hb : w.heap[B]? = some (.cells #[.int .i64 (b.s : Int), .int .i64 (b.o : Int)] 31 (0, 0))) :
    Calls Try.prog 70 #[.int .i64 (x : Int), .pointer (some ⟨B, 0, none⟩)] w fun e w' => e = .returned (.bool (inB b (x : Int))) ∧ Below w.heap.size w w' := by
  obtain ⟨c0, c1⟩ := two_cells hb
  have hin := fun W => in_calls b (x : Int) W ho hs
  generalize inB b (x : Int) = r at *
  clear hb
  go_enter Try.func70, Try.ntmps70
  go_wp2_with (go_at_call 38; refine (hin _).mono ?_; rintro e w' ⟨rfl, hbl⟩)
  go_ret
  exact ⟨rfl, hbl⟩

/-- Where the first of some numbers is that lies in a block. -/
def firstIn (b : Blk) : List Nat → Nat → Int
  | [], _ => -1
  | x :: l, i => if inB b (x : Int) then (i : Int) else firstIn b l (i + 1)

theorem firstIn_some (b : Blk) : ∀ (l : List Nat) (i k : Nat), k < l.length → (∀ j, j < k → inB b ((l.getD j 0 : Nat) : Int) = false) → inB b ((l.getD k 0 : Nat) : Int) = true → firstIn b l i = ((i + k : Nat) : Int)
  | x :: l, i, 0, _, _, h => by simp at h; simp [firstIn, h]
  | x :: l, i, k + 1, hk, h0, h => by
    have hx := h0 0 (by omega)
    simp at hx
    rw [firstIn, if_neg (by simp [hx]), firstIn_some b l (i + 1) k (by simpa using hk) (fun j hj => by have := h0 (j + 1) (by omega); simpa using this) (by simpa using h)]
    omega
theorem firstIn_none (b : Blk) : ∀ (l : List Nat) (i : Nat), (∀ j, j < l.length → inB b ((l.getD j 0 : Nat) : Int) = false) → firstIn b l i = -1
  | [], _, _ => rfl
  | x :: l, i, h => by
    have hx := h 0 (by simp)
    simp at hx
    rw [firstIn, if_neg (by simp [hx]), firstIn_none b l (i + 1) (fun j hj => by have := h (j + 1) (by simpa using hj); simpa using this)]

set_option maxHeartbeats 2000000 in
set_option maxRecDepth 100000 in
theorem index70 (b : Blk) (B : Nat) (v : Value) (l : List Nat) (w : World) (ho : b.o ≤ 10) (hs : b.s < 4294967296) (hb : w.heap[B]? = some (.cells #[.int .i64 (b.s : Int), .int .i64 (b.o : Int)] 31 (0, 0))) (hv : OwnN w v l) (hl : l.length ≤ 1073741824) :
    Calls Try.prog 84 #[v, .func (.func 70) #[] #[.pointer (some ⟨B, 0, none⟩)]] w fun e w' => e = .returned (.int .i64 (firstIn b l 0)) ∧ Below w.heap.size w w' := by
  obtain ⟨a, c, rfl, hn, hc, hg⟩ := own_form hv
  have hcl := fun x W hb' => closure70 b x B W ho hs hb'
  have HC := Lib.hid hcl
  have hBl : B < w.heap.size := (Array.getElem?_eq_some_iff.1 hb).1
  clear hcl
  go_enter Try.func84, Try.ntmps84
  go_wp2_with fail
  go_loopg [8] l.length (fun g s8 wr => ∃ k : Nat, s8 = .int .i64 (k : Int) ∧ k ≤ l.length ∧ l.length - k ≤ g ∧ Below w.heap.size w wr ∧ ∀ j, j < k → inB b ((l.getD j 0 : Nat) : Int) = false)
  case atStart => exact ⟨0, rfl, Nat.zero_le _, Nat.le_refl _, Below.refl _ _, fun j hj => absurd hj (Nat.not_lt_zero _)⟩
  case round =>
    obtain ⟨k, rfl, hk, hgk, hbl, hno⟩ := hrel
    have HN := Lib.hid hno
    clear hno
    by_cases hlt : k < l.length
    · have hlt' : (k : Int) < (l.length : Int) := by omega
      have i0 : (0 : Int) ≤ (k : Int) := by omega
      obtain ⟨g, rfl⟩ := hg.resolve_left (by omega)
      obtain ⟨x, hx⟩ : ∃ x, x = l.getD k 0 := ⟨_, rfl⟩
      have hcell : wr.cell? ⟨g, k, none⟩ = some (.int .i64 (x : Int)) := by
        have h1 := own_cells hv k (.int .i64 (x : Int)) (by rw [hx]; simp [nv, List.getD_eq_getElem?_getD, hlt])
        exact (hbl.cell (p := ⟨g, k, none⟩) (World.block_lt_of_cell? w _ h1)).trans h1
      have hb' : wr.heap[B]? = some (.cells #[.int .i64 (b.s : Int), .int .i64 (b.o : Int)] 31 (0, 0)) := (hbl.block B hBl).trans hb
      have HX := Lib.hid hx
      have hCx := HC.out x wr hb'
      clear hx hb'
      by_cases hin : inB b (x : Int) = true
      · rw [hin] at hCx
        clear hb hv
        have HI := Lib.hid hin
        clear hin
        go_wp2_with (refine hCx.mono ?_; rintro e w' ⟨rfl, hbl2⟩)
        go_ret
        refine ⟨?_, hbl.trans (hbl2.mono hbl.size)⟩
        rw [firstIn_some b l 0 k hlt HN.out (by rw [← HX.out]; exact HI.out)]
        simp
      · have hin' : inB b (x : Int) = false := by simpa using hin
        rw [hin'] at hCx
        clear hb hv
        have HI := Lib.hid hin'
        clear hin hin'
        go_wp2_with (refine hCx.mono ?_; rintro e w' ⟨rfl, hbl2⟩)
        go_roundg (gk - 1)
        case measure => omega
        case rel =>
          refine ⟨k + 1, by go_num, by omega, by omega, hbl.trans (hbl2.mono hbl.size), fun j hj => ?_⟩
          rcases Nat.lt_or_eq_of_le (Nat.le_of_lt_succ hj) with h | rfl
          · exact HN.out j h
          · rw [← HX.out]; exact HI.out
    · have hge : (l.length : Int) ≤ (k : Int) := by omega
      have hlt' : ¬ (k : Int) < (l.length : Int) := by omega
      clear hb hv
      go_wp2_with fail
      go_ret
      refine ⟨?_, hbl⟩
      rw [firstIn_none b l 0 (fun j hj => HN.out j (by omega))]
      rfl

theorem firstIn_has (b : Blk) (ho : b.o ≤ 10) : ∀ (l : List Nat) (i : Nat), decide (0 ≤ firstIn b l i) = hasF l b.s b.o
  | [], _ => by simp [firstIn, hasF]
  | x :: l, i => by
    have ih := firstIn_has b ho l (i + 1)
    have e : inB b (x : Int) = decide (b.s ≤ x ∧ x < b.s + 2 ^ b.o) := by
      unfold inB
      rw [Bool.eq_iff_iff]
      simp only [decide_eq_true_eq]
      generalize 2 ^ b.o = P
      omega
    simp only [hasF, List.any_cons] at ih ⊢
    rw [firstIn, e]
    by_cases h : b.s ≤ x ∧ x < b.s + 2 ^ b.o
    · simp [h]
    · rw [if_neg (by simpa using h), ih]
      simp [h]

set_option maxHeartbeats 1000000 in
set_option maxRecDepth 100000 in
theorem contains70 (b : Blk) (B : Nat) (v : Value) (l : List Nat) (w : World) (ho : b.o ≤ 10) (hs : b.s < 4294967296) (hb : w.heap[B]? = some (.cells #[.int .i64 (b.s : Int), .int .i64 (b.o : Int)] 31 (0, 0))) (hv : OwnN w v l) (hl : l.length ≤ 1073741824) :
    Calls Try.prog 69 #[v, .func (.func 70) #[] #[.pointer (some ⟨B, 0, none⟩)]] w fun e w' => e = .returned (.bool (hasF l b.s b.o)) ∧ Below w.heap.size w w' := by
  have h := index70 b B v l w ho hs hb hv hl
  rw [← firstIn_has b ho l 0]
  generalize firstIn b l 0 = r at *
  clear hb hv
  go_enter Try.func69, Try.ntmps69
  go_wp2_with (go_at_call 84; refine h.mono ?_; rintro e w' ⟨rfl, hbl⟩)
  go_ret
  exact ⟨rfl, hbl⟩

theorem layF_keeps (n : Nat) : ∀ (d o s : Nat) (f : Nat → List Nat), n - o = d → (∀ q, SortK id (f q)) → (∀ q, SortK id (layF n f s o q)) ∧ ∀ q, (layF n f s o q).length ≤ (f q).length + 1 := by
  intro d
  induction d with
  | zero =>
    intro o s f hd hf
    rw [layF_stop _ _ _ _ (by omega)]
    refine ⟨fun q => ?_, fun q => ?_⟩
    · by_cases hq : q = o
      · subst hq; rw [upd_same]; exact sort_insK id (hf q)
      · rw [upd_other _ hq]; exact hf q
    · by_cases hq : q = o
      · subst hq; rw [upd_same, length_insK]; exact Nat.le_refl _
      · rw [upd_other _ hq]; omega
  | succ d ih =>
    intro o s f hd hf
    by_cases h : o < n ∧ sib s o ∈ f o
    · rw [layF_on _ _ _ _ h.1 h.2]
      have := ih (o + 1) (min s (sib s o)) (upd f o (delK id (sib s o) (f o))) (by omega) (fun q => by
        by_cases hq : q = o
        · subst hq; rw [upd_same]; exact sort_delK id (hf q)
        · rw [upd_other _ hq]; exact hf q)
      refine ⟨this.1, fun q => Nat.le_trans (this.2 q) ?_⟩
      by_cases hq : q = o
      · subst hq; rw [upd_same]; have := (delK_sublist id (sib s q) (f q)).length_le; omega
      · rw [upd_other _ hq]; exact Nat.le_refl _
    · rw [layF_stop _ _ _ _ h]
      refine ⟨fun q => ?_, fun q => ?_⟩
      · by_cases hq : q = o
        · subst hq; rw [upd_same]; exact sort_insK id (hf q)
        · rw [upd_other _ hq]; exact hf q
      · by_cases hq : q = o
        · subst hq; rw [upd_same, length_insK]; exact Nat.le_refl _
        · rw [upd_other _ hq]; omega

theorem openF_keeps (n : Nat) (bad : List Nat) : ∀ (o s : Nat) (f : Nat → List Nat), (∀ q, SortK id (f q)) → (∀ q, SortK id (openF n bad f s o q)) ∧ ∀ q, (openF n bad f s o q).length ≤ (f q).length + 2 ^ o := by
  intro o
  induction o with
  | zero =>
    intro s f hf
    rw [openF]
    split
    · exact ⟨hf, fun q => by omega⟩
    · have := layF_keeps n _ 0 s f rfl hf
      exact ⟨this.1, fun q => Nat.le_trans (this.2 q) (by simp)⟩
  | succ o ih =>
    intro s f hf
    rw [openF]
    split
    · have h1 := ih s f hf
      have h2 := ih (s + 2 ^ o) _ h1.1
      refine ⟨h2.1, fun q => Nat.le_trans (h2.2 q) ?_⟩
      have := h1.2 q
      rw [Nat.pow_succ]
      omega
    · have := layF_keeps n _ (o + 1) s f rfl hf
      refine ⟨this.1, fun q => Nat.le_trans (this.2 q) ?_⟩
      have := Nat.two_pow_pos (o + 1)
      omega

end Go.Proofs.Ythmgnfkjkdmdoaa
