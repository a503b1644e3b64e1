/- Contracts: byStart, slices.BinarySearchFunc with it. -/
import Derived.Test.YthmgnfkjkdmdoaaYard
import Derived.Deep.LoopGhost
set_option linter.unusedSimpArgs false
set_option linter.unusedVariables false
namespace Go.Proofs.Ythmgnfkjkdmdoaa
open Go Go.RowKit Bud

theorem bv_get : ∀ (l : List Blk) (j : Nat) (b : Blk), l[j]? = some b → (bv l)[j * 2]? = some (.int .i64 (b.s : Int)) ∧ (bv l)[j * 2 + 1]? = some (.int .i64 (b.o : Int)) := by
  intro l
  induction l with
  | nil => intro j b h; simp at h
  | cons a l ih =>
    intro j b h
    have e : bv (a :: l) = .int .i64 (a.s : Int) :: .int .i64 (a.o : Int) :: bv l := by simp [bv, bc]
    cases j with
    | zero => simp at h; subst h; rw [e]; simp
    | succ j =>
      rw [e, show (j + 1) * 2 = j * 2 + 1 + 1 by omega]
      simpa using ih j b (by simpa using h)

/-- The two cells of a block in an owned row. -/
theorem OwnB.two {w : World} {g c n : Nat} {l : List Blk} (h : OwnB w (.slice (some ⟨g, 0, none⟩) n c) l) (hn : n = l.length) (j : Nat) (b : Blk) (hj : l[j]? = some b) :
    w.cell? ⟨g, j * 2, none⟩ = some (.int .i64 (b.s : Int)) ∧ w.cell? ⟨g, j * 2 + 1, none⟩ = some (.int .i64 (b.o : Int)) := by
  obtain ⟨h0, h1⟩ := bv_get l j b hj
  subst hn
  exact ⟨own_cells h _ _ h0, own_cells h _ _ h1⟩

/-- Where a start, of whatever sign, would stand. -/
def posI (x : Int) (l : List Blk) : Nat := l.countP fun b => decide ((b.s : Int) < x)
theorem posI_nat (x : Nat) (l : List Blk) : posI (x : Int) l = posK Blk.s x l := by
  unfold posI posK
  congr 1
  funext b
  simp
theorem posI_le (x : Int) (l : List Blk) : posI x l ≤ l.length := List.countP_le_length
theorem posI_eq {x : Int} {l : List Blk} {p : Nat} (hp : p ≤ l.length) (h1 : ∀ j b, j < p → l[j]? = some b → (b.s : Int) < x) (h2 : ∀ j b, p ≤ j → l[j]? = some b → x ≤ (b.s : Int)) : posI x l = p := by
  have e : posI x l = posI x (l.take p) + posI x (l.drop p) := by
    unfold posI
    rw [← List.countP_append, List.take_append_drop]
  rw [e]
  have e1 : posI x (l.take p) = p := by
    unfold posI
    rw [List.countP_eq_length.2, List.length_take, Nat.min_eq_left hp]
    intro a ha
    obtain ⟨j, hj, rfl⟩ := List.getElem_of_mem ha
    rw [List.length_take] at hj
    have := h1 j _ (by omega) (List.getElem?_eq_getElem (by omega))
    simpa using this
  have e2 : posI x (l.drop p) = 0 := by
    unfold posI
    rw [List.countP_eq_zero]
    intro a ha
    obtain ⟨j, hj, rfl⟩ := List.getElem_of_mem ha
    rw [List.length_drop] at hj
    have := h2 (p + j) _ (by omega) (List.getElem?_eq_getElem (by omega))
    simpa using this
  omega

/-- Is there a block of this start? -/
def hasI (x : Int) (l : List Blk) : Bool := l.any fun b => decide ((b.s : Int) = x)

theorem byStart_calls (s o : Nat) (x : Int) (w : World) :
    Calls Try.prog 57 #[.agg #[.int .i64 (s : Int), .int .i64 (o : Int)], .int .i64 x] w fun e w' => e = .returned (.int .i64 (Lib.compareInt (s : Int) x)) ∧ Below w.heap.size w w' := by
  obtain ⟨B, hB⟩ : ∃ B, B = w.heap.size := ⟨_, rfl⟩
  obtain ⟨W1, hW1⟩ : ∃ W1, W1 = w.alloc (.cells #[.int .i64 (s : Int), .int .i64 (o : Int)] 31) := ⟨_, rfl⟩
  have hb : W1.heap[B]? = some (.cells #[.int .i64 (s : Int), .int .i64 (o : Int)] 31 (0, 0)) := by rw [hW1, hB]; exact box_heap _ _ _
  have hbl : Hid (Below w.heap.size w W1) := by rw [hW1]; exact below_alloc' _ _
  obtain ⟨c0, c1⟩ := two_cells hb
  clear hb
  have HW := Lib.hid hW1
  clear hW1
  go_enter Try.func57, Try.ntmps57
  go_wp2_with fail
  rw [← HW.out, ← hB]
  go_wp2_with fail
  refine (Try.cmp_Compare_int (s : Int) x W1).mono ?_
  rintro e w' ⟨rfl, rfl⟩
  go_wp2_with fail
  go_ret
  exact ⟨rfl, hbl.out⟩

set_option maxHeartbeats 4000000 in
set_option maxRecDepth 100000 in
theorem bsf_calls {w : World} {v : Value} {l : List Blk} (h : OwnB w v l) (hs : SortK Blk.s l) (hl : l.length ≤ 1073741824) (x : Int) :
    Calls Try.prog 56 #[v, .int .i64 x, .func (.func 57) #[] #[]] w fun e w' => e = .returned (.tuple #[.int .i64 ((posI x l : Nat) : Int), .bool (hasI x l)]) ∧ Below w.heap.size w w' := by
  obtain ⟨a, c, rfl, hn, hc, hg⟩ := own_form h
  have hby := byStart_calls
  have HBY := Lib.hid hby
  obtain ⟨n, hnl⟩ : ∃ n, n = l.length := ⟨_, rfl⟩
  rw [← hnl] at h hn hg hl ⊢
  clear hby
  have hget : ∀ j, j < n → ∃ b, l[j]? = some b := fun j hj => ⟨_, List.getElem?_eq_getElem (by omega)⟩
  have hsort : ∀ (i j : Nat) (a b : Blk), i ≤ j → l[i]? = some a → l[j]? = some b → a.s ≤ b.s := by
    intro i j a b hij ha hb
    rcases Nat.eq_or_lt_of_le hij with rfl | hlt
    · rw [ha] at hb; cases hb; exact Nat.le_refl _
    · obtain ⟨hi, rfl⟩ := List.getElem?_eq_some_iff.1 ha
      obtain ⟨hj, rfl⟩ := List.getElem?_eq_some_iff.1 hb
      exact List.pairwise_iff_getElem.1 hs i j hi hj hlt
  have HS := Lib.hid hsort
  have HG := Lib.hid hget
  have HN := Lib.hid hnl
  obtain ⟨P0, hP0⟩ : ∃ P0, P0 = posI x l := ⟨_, rfl⟩
  obtain ⟨R0, hR0⟩ : ∃ R0, R0 = hasI x l := ⟨_, rfl⟩
  rw [← hP0, ← hR0]
  have HP := Lib.hid hP0
  have HR := Lib.hid hR0
  clear hsort hget hnl hs hP0 hR0
  go_enter Try.func56, Try.ntmps56
  go_wp2_with fail
  go_loopg [9, 10] n (fun g s9 s10 wr => ∃ lo hi : Nat, s9 = .int .i64 (lo : Int) ∧ s10 = .int .i64 (hi : Int) ∧ lo ≤ hi ∧ hi ≤ n ∧ hi - lo ≤ g ∧ Below w.heap.size w wr ∧ (∀ j b, j < lo → l[j]? = some b → (b.s : Int) < x) ∧ (∀ j b, hi ≤ j → l[j]? = some b → x ≤ (b.s : Int)))
  case atStart => exact ⟨0, n, rfl, rfl, Nat.zero_le _, Nat.le_refl _, by omega, Below.refl _ _, fun j b hj => absurd hj (Nat.not_lt_zero _), fun j b hj hb => absurd (List.getElem?_eq_some_iff.1 hb).1 (by have := HN.out; omega)⟩
  case round =>
    obtain ⟨lo, hi, rfl, rfl, hlh, hhn, hgk, hbl, h1, h2⟩ := hrel
    have H1 := Lib.hid h1
    have H2 := Lib.hid h2
    clear h1 h2
    by_cases hlt : lo < hi
    · have hlt' : (lo : Int) < (hi : Int) := by omega
      obtain ⟨g, rfl⟩ := hg.resolve_left (by omega)
      obtain ⟨m, hm⟩ : ∃ m, m = (lo + hi) / 2 := ⟨_, rfl⟩
      have i0 : (0 : Int) ≤ (m : Int) := by omega
      have i1 : (m : Int) < (n : Int) := by omega
      obtain ⟨b, hb⟩ := HG.out m (by omega)
      obtain ⟨e0, e1⟩ := h.two HN.out m b hb
      replace e0 := (hbl.cell (p := ⟨g, m * 2, none⟩) (World.block_lt_of_cell? w _ e0)).trans e0
      replace e1 := (hbl.cell (p := ⟨g, m * 2 + 1, none⟩) (World.block_lt_of_cell? w _ e1)).trans e1
      have HB := Lib.hid hb
      obtain ⟨sm, hsm⟩ : ∃ sm, sm = b.s := ⟨_, rfl⟩
      obtain ⟨om, hom⟩ : ∃ om, om = b.o := ⟨_, rfl⟩
      rw [← hsm] at e0
      rw [← hom] at e1
      have HSM := Lib.hid hsm
      have w1 : IntKind.i64.wrap ((lo : Int) + (hi : Int)) = (lo : Int) + (hi : Int) := by rw [IntKind.wrap_i64]; omega
      have hcall := HBY.out sm om x
      have hmid : ((lo : Int) + (hi : Int)) / 2 = (m : Int) := by omega
      have HM := Lib.hid hm
      clear hb hsm hom hm
      go_wp2_with fail
      refine (hcall wr).mono ?_
      rintro e w' ⟨rfl, hbl2⟩
      have hbl3 := hbl.trans (hbl2.mono hbl.size)
      by_cases hsx : (sm : Int) < x
      · have hcm : Lib.compareInt (sm : Int) x = -1 := by simp [Lib.compareInt, hsx]
        rw [hcm]
        have HX := Lib.hid hsx
        clear hcm hsx
        go_wp2_with fail
        rw [show (m : Int) + 1 = ((m + 1 : Nat) : Int) by omega]
        go_roundg (gk - 1)
        case measure => have := HM.out; omega
        case rel =>
          refine ⟨m + 1, hi, rfl, rfl, by have := HM.out; omega, hhn, by have := HM.out; omega, hbl3, fun j d hj hd => ?_, H2.out⟩
          have := HS.out j m d b (by omega) hd HB.out
          have := HSM.out
          have := HX.out
          omega
      · have hcm : Lib.compareInt (sm : Int) x = 0 ∨ Lib.compareInt (sm : Int) x = 1 := by
          unfold Lib.compareInt
          rw [if_neg hsx]
          split <;> simp
        have HX := Lib.hid hsx
        clear hsx
        rcases hcm with hcm | hcm
        all_goals
          rw [hcm]
          clear hcm
          go_wp2_with fail
          go_roundg (gk - 1)
          case measure => have := HM.out; omega
          case rel =>
            refine ⟨lo, m, rfl, rfl, by have := HM.out; omega, by have := HM.out; omega, by have := HM.out; omega, hbl3, H1.out, fun j d hj hd => ?_⟩
            have := HS.out m j b d (by omega) HB.out hd
            have := HSM.out
            have := HX.out
            omega
    · have hlt' : ¬ ((lo : Int) < (hi : Int)) := by omega
      obtain rfl : lo = hi := by omega
      have hpe : posI x l = lo := posI_eq (by have := HN.out; omega) H1.out H2.out
      have HPE := Lib.hid hpe
      clear hpe
      by_cases hln : lo < n
      · have hln' : (lo : Int) < (n : Int) := by omega
        obtain ⟨g, rfl⟩ := hg.resolve_left (by omega)
        have i0 : (0 : Int) ≤ (lo : Int) := by omega
        obtain ⟨b, hb⟩ := HG.out lo hln
        obtain ⟨e0, e1⟩ := h.two HN.out lo b hb
        replace e0 := (hbl.cell (p := ⟨g, lo * 2, none⟩) (World.block_lt_of_cell? w _ e0)).trans e0
        replace e1 := (hbl.cell (p := ⟨g, lo * 2 + 1, none⟩) (World.block_lt_of_cell? w _ e1)).trans e1
        have HB := Lib.hid hb
        obtain ⟨sm, hsm⟩ : ∃ sm, sm = b.s := ⟨_, rfl⟩
        obtain ⟨om, hom⟩ : ∃ om, om = b.o := ⟨_, rfl⟩
        rw [← hsm] at e0
        rw [← hom] at e1
        have HSM := Lib.hid hsm
        have hcall := HBY.out sm om x
        have hge : x ≤ (sm : Int) := by rw [hsm]; exact H2.out lo b (Nat.le_refl _) hb
        have HGE := Lib.hid hge
        clear hb hsm hom hge
        go_wp2_with fail
        refine (hcall wr).mono ?_
        rintro e w' ⟨rfl, hbl2⟩
        have hbl3 := hbl.trans (hbl2.mono hbl.size)
        by_cases hsx : x = (sm : Int)
        · have hcm : Lib.compareInt (sm : Int) x = 0 := by
            unfold Lib.compareInt
            rw [if_neg (by omega), if_neg (by omega)]
          have hhas : hasI x l = true := by
            unfold hasI
            rw [List.any_eq_true]
            exact ⟨b, List.mem_of_getElem? HB.out, by have := HSM.out; simp; omega⟩
          rw [hcm]
          have HH := Lib.hid hhas
          clear hcm hsx hhas
          go_wp2_with fail
          go_ret2
          exact ⟨by rw [HP.out, HR.out, HPE.out, HH.out]; rfl, hbl3⟩
        · have hcm : Lib.compareInt (sm : Int) x = 1 := by
            have := HGE.out
            unfold Lib.compareInt
            rw [if_neg (by omega), if_pos (by omega)]
          have hhas : hasI x l = false := by
            unfold hasI
            rw [List.any_eq_false]
            intro d hd
            obtain ⟨j, hj⟩ := List.getElem?_of_mem hd
            have h3 := HSM.out
            have h4 := HGE.out
            rcases Nat.lt_or_ge j lo with h5 | h5
            · have := H1.out j d h5 hj
              simp; omega
            · have := HS.out lo j b d h5 HB.out hj
              simp; omega
          rw [hcm]
          have HH := Lib.hid hhas
          clear hcm hsx hhas
          go_wp2_with fail
          go_ret2
          exact ⟨by rw [HP.out, HR.out, HPE.out, HH.out]; rfl, hbl3⟩
      · have hln' : ¬ ((lo : Int) < (n : Int)) := by omega
        have hhas : hasI x l = false := by
          unfold hasI
          rw [List.any_eq_false]
          intro d hd
          obtain ⟨j, hj⟩ := List.getElem?_of_mem hd
          have := H1.out j d (by have := (List.getElem?_eq_some_iff.1 hj).1; have := HN.out; omega) hj
          simp; omega
        have HH := Lib.hid hhas
        clear hhas
        go_wp2_with fail
        go_ret2
        exact ⟨by rw [HP.out, HR.out, HPE.out, HH.out]; rfl, hbl⟩
end Go.Proofs.Ythmgnfkjkdmdoaa
