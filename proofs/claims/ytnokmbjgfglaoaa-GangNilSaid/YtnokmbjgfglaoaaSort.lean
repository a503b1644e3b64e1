/- Contracts: cmp.Or of two, the closure by which cells are sorted, slices.SortFunc, slices.Clone. -/
import Derived.Test.YtnokmbjgfglaoaaMat
import Derived.Test.YtnokmbjgfglaoaaShelf
set_option linter.unusedSimpArgs false
set_option linter.unusedVariables false
namespace Go.Proofs.Ytnokmbjgfglaoaa
open Go Go.RowKit Go.Lib Go.Sort

instance : Inhabited Cel := ⟨⟨0, 0, 0, 0⟩⟩

set_option maxHeartbeats 2000000 in
set_option maxRecDepth 100000 in
theorem or2 (w : World) (b : Nat) (x y : Int) (h0 : w.cell? ⟨b, 0, none⟩ = some (.int .i64 x)) (h1 : w.cell? ⟨b, 1, none⟩ = some (.int .i64 y)) :
    Calls Try.prog 51 #[.slice (some ⟨b, 0, none⟩) 2 2] w fun e w' => e = .returned (.int .i64 (if x = 0 then y else x)) ∧ w' = w := by
  obtain ⟨R, hR⟩ : ∃ R, R = if x = 0 then y else x := ⟨_, rfl⟩
  rw [← hR]
  by_cases hx : x = 0
  · subst hx
    rw [if_pos rfl] at hR
    by_cases hy : y = 0
    · subst hy
      subst hR
      go_enter Try.func51, Try.ntmps51
      go_wp2_with fail
      refine wp_loop_rounds 3 ?_
      rw [rounds_succ]
      go_wp2_with fail
      rw [rounds_succ]
      go_wp2_with fail
      rw [rounds_succ]
      go_wp2_with fail
      go_ret
      exact ⟨rfl, rfl⟩
    · have hy2 : (y != 0) = true := by rw [bne_iff_ne]; exact hy
      have HR := Lib.hid hR
      clear hR hy
      go_enter Try.func51, Try.ntmps51
      go_wp2_with fail
      refine wp_loop_rounds 2 ?_
      rw [rounds_succ]
      go_wp2_with fail
      rw [rounds_succ]
      go_wp2_with fail
      go_ret
      exact ⟨by rw [HR.out]; rfl, rfl⟩
  · rw [if_neg hx] at hR
    have hx2 : (x != 0) = true := by rw [bne_iff_ne]; exact hx
    have HR := Lib.hid hR
    clear hR hx
    go_enter Try.func51, Try.ntmps51
    go_wp2_with fail
    refine wp_loop_rounds 1 ?_
    rw [rounds_succ]
    go_wp2_with fail
    go_ret
    exact ⟨by rw [HR.out]; rfl, rfl⟩

/-- Cells by rows, then starts. -/
def cmpC (x y : Cel) : Int := if Lib.compareInt (x.row : Int) (y.row : Int) = 0 then Lib.compareInt (x.s : Int) (y.s : Int) else Lib.compareInt (x.row : Int) (y.row : Int)
theorem ltC (x y : Cel) : ltOf cmpC x y = decide (x.row < y.row ∨ x.row = y.row ∧ x.s < y.s) := by
  unfold ltOf cmpC Lib.compareInt
  rcases Nat.lt_trichotomy x.row y.row with h | h | h
  · simp [h]
  · rw [h]
    by_cases h1 : x.s < y.s
    · simp [h1]
    · by_cases h2 : y.s < x.s <;> simp [h1, h2]
  · have h1 : ¬ x.row < y.row := by omega
    have h2 : ¬ x.row = y.row := by omega
    simp [h, h1, h2]
theorem swoC : SWO (ltOf cmpC) where
  irrefl x := by rw [ltC]; simp
  trans x y z h1 h2 := by rw [ltC] at *; simp at *; omega
  ntrans x y z h1 h2 := by rw [ltC] at *; simp at *; omega

set_option maxHeartbeats 4000000 in
set_option maxRecDepth 100000 in
theorem closure50 (x y : Cel) (w : World) :
    Calls Try.prog 50 #[.agg (cc x).toArray, .agg (cc y).toArray] w fun e w' => e = .returned (.int .i64 (cmpC x y)) ∧ ∃ q os', w' = grow (w.drewN q) os' := by
  obtain ⟨xi, xr, xs, xo⟩ := x
  obtain ⟨yi, yr, ys, yo⟩ := y
  show Calls Try.prog 50 #[.agg #[.int .u32 (xi : Int), .int .i64 (xr : Int), .int .i64 (xs : Int), .int .i64 (xo : Int)], .agg #[.int .u32 (yi : Int), .int .i64 (yr : Int), .int .i64 (ys : Int), .int .i64 (yo : Int)]] w fun e w' => e = .returned (.int .i64 (if Lib.compareInt (xr : Int) (yr : Int) = 0 then Lib.compareInt (xs : Int) (ys : Int) else Lib.compareInt (xr : Int) (yr : Int))) ∧ ∃ q os', w' = grow (w.drewN q) os'
  have hc1 := Try.cmp_Compare_int (xr : Int) (yr : Int)
  have hc2 := Try.cmp_Compare_int (xs : Int) (ys : Int)
  generalize Lib.compareInt (xr : Int) (yr : Int) = r1 at *
  generalize Lib.compareInt (xs : Int) (ys : Int) = r2 at *
  obtain ⟨R, hR⟩ : ∃ R, R = if r1 = 0 then r2 else r1 := ⟨_, rfl⟩
  rw [← hR]
  obtain ⟨B, hB⟩ : ∃ B, B = w.heap.size := ⟨_, rfl⟩
  obtain ⟨W1, hW1⟩ : ∃ W1, W1 = (w.alloc (.cells #[.int .u32 (xi : Int), .int .i64 (xr : Int), .int .i64 (xs : Int), .int .i64 (xo : Int)] 34)).alloc (.cells #[.int .u32 (yi : Int), .int .i64 (yr : Int), .int .i64 (ys : Int), .int .i64 (yo : Int)] 34) := ⟨_, rfl⟩
  have hb0 : W1.heap[B]? = some (.cells #[.int .u32 (xi : Int), .int .i64 (xr : Int), .int .i64 (xs : Int), .int .i64 (xo : Int)] 34 (0, 0)) := by rw [hW1, hB, Below.heap_alloc _ _ _ (by simp)]; exact box_heap _ _ _
  have hb1 : W1.heap[B + 1]? = some (.cells #[.int .u32 (yi : Int), .int .i64 (yr : Int), .int .i64 (ys : Int), .int .i64 (yo : Int)] 34 (0, 0)) := by
    rw [hW1, hB]
    have := box_heap (w.alloc (.cells #[.int .u32 (xi : Int), .int .i64 (xr : Int), .int .i64 (xs : Int), .int .i64 (xo : Int)] 34)) #[.int .u32 (yi : Int), .int .i64 (yr : Int), .int .i64 (ys : Int), .int .i64 (yo : Int)] 34
    rwa [show (w.alloc (.cells #[.int .u32 (xi : Int), .int .i64 (xr : Int), .int .i64 (xs : Int), .int .i64 (xo : Int)] 34)).heap.size = w.heap.size + 1 by simp] at this
  have d1 : W1.cell? ⟨B, 1, none⟩ = some (.int .i64 (xr : Int)) := by simp [World.cell?, hb0]
  have d2 : W1.cell? ⟨B, 2, none⟩ = some (.int .i64 (xs : Int)) := by simp [World.cell?, hb0]
  have d3 : W1.cell? ⟨B + 1, 1, none⟩ = some (.int .i64 (yr : Int)) := by simp [World.cell?, hb1]
  have d4 : W1.cell? ⟨B + 1, 2, none⟩ = some (.int .i64 (ys : Int)) := by simp [World.cell?, hb1]
  have hlt : B + 1 < W1.heap.size := (Array.getElem?_eq_some_iff.1 hb1).1
  have HB := Lib.hid hB
  have HW := Lib.hid hW1
  have HR := Lib.hid hR
  have HC1 := Lib.hid hc1
  have HC2 := Lib.hid hc2
  clear hB hW1 hR hc1 hc2 hb0 hb1
  go_enter Try.func50, Try.ntmps50
  go_upto_region 1 with (fail)
  rw [← HB.out, ← HW.out]
  refine Thr.drawn [(0, false), (1, false), (2, false), (3, false), (5, false), (6, false), (7, false), (8, false), (9, false), (10, false), (4, true), (11, true), (12, true), (13, true), (14, false)] 15
    (fun w' => w'.cell? ⟨B, 1, none⟩ = some (.int .i64 (xr : Int)) ∧ w'.cell? ⟨B, 2, none⟩ = some (.int .i64 (xs : Int)) ∧ w'.cell? ⟨B + 1, 1, none⟩ = some (.int .i64 (yr : Int)) ∧ w'.cell? ⟨B + 1, 2, none⟩ = some (.int .i64 (ys : Int))) (by kernel_rfl) (by kernel_rfl) (fun c a w d v h => by cases d <;> exact h) ⟨d1, d2, d3, d4⟩ ?_
  simp only [Thr.pick, Array.reduceGetElem?]
  iterate 10
    apply Thr.read rfl
    · intro w' hS
      go_simp
      try with_reducible rfl
    simp only [Act.put, List.setIfInBounds_toArray, List.set_cons_zero, List.set_cons_succ]
  apply Thr.act rfl
  intro K hK
  go_simp
  refine (HC1.out _).mono ?_
  rintro e w2 ⟨rfl, hw2⟩
  subst hw2
  refine hK _ _ ⟨d1, d2, d3, d4⟩ ?_
  clear hK K
  try simp only [Act.put, List.setIfInBounds_toArray, List.set_cons_zero, List.set_cons_succ]
  apply Thr.act rfl
  intro K hK
  go_simp
  refine (HC2.out _).mono ?_
  rintro e w3 ⟨rfl, hw3⟩
  subst hw3
  refine hK _ _ ⟨d1, d2, d3, d4⟩ ?_
  clear hK K
  try simp only [Act.put, List.setIfInBounds_toArray, List.set_cons_zero, List.set_cons_succ]
  apply Thr.act rfl
  intro K hK
  go_simp
  have hbA := below_alloc' W1 (.cells #[.int .i64 r1, .int .i64 r2] 3)
  have n1 := box_cell W1 #[.int .i64 r1, .int .i64 r2] 3 0
  have n2 := box_cell W1 #[.int .i64 r1, .int .i64 r2] 3 1
  obtain ⟨W2, hW2⟩ : ∃ W2, W2 = (W1.alloc (.cells #[.int .i64 r1, .int .i64 r2] 3)).drew := ⟨_, rfl⟩
  have m1 : W2.cell? ⟨W1.heap.size, 0, none⟩ = some (.int .i64 r1) := by rw [hW2]; exact n1
  have m2 : W2.cell? ⟨W1.heap.size, 1, none⟩ = some (.int .i64 r2) := by rw [hW2]; exact n2
  have s1 : W2.cell? ⟨B, 1, none⟩ = some (.int .i64 (xr : Int)) := by rw [hW2]; exact (hbA.cell (p := ⟨B, 1, none⟩) (by show B < _; omega)).trans d1
  have s2 : W2.cell? ⟨B, 2, none⟩ = some (.int .i64 (xs : Int)) := by rw [hW2]; exact (hbA.cell (p := ⟨B, 2, none⟩) (by show B < _; omega)).trans d2
  have s3 : W2.cell? ⟨B + 1, 1, none⟩ = some (.int .i64 (yr : Int)) := by rw [hW2]; exact (hbA.cell (p := ⟨B + 1, 1, none⟩) hlt).trans d3
  have s4 : W2.cell? ⟨B + 1, 2, none⟩ = some (.int .i64 (ys : Int)) := by rw [hW2]; exact (hbA.cell (p := ⟨B + 1, 2, none⟩) hlt).trans d4
  rw [← hW2]
  have HW2 := Lib.hid hW2
  clear hW2 hbA n1 n2
  refine hK _ _ ⟨s1, s2, s3, s4⟩ ?_
  clear hK K
  try simp only [Act.put, List.setIfInBounds_toArray, List.set_cons_zero, List.set_cons_succ]
  apply Thr.act rfl
  intro K hK
  have HO := Lib.hid (or2 W2 W1.heap.size r1 r2 m1 m2)
  clear m1 m2
  go_simp
  refine HO.out.mono ?_
  rintro e w4 ⟨rfl, hw4⟩
  subst hw4
  refine hK _ _ ⟨s1, s2, s3, s4⟩ ?_
  clear hK K
  try simp only [Act.put, List.setIfInBounds_toArray, List.set_cons_zero, List.set_cons_succ]
  rw [← HR.out]
  apply Thr.read rfl
  · intro w' hS
    go_simp
    try with_reducible rfl
  simp only [Act.put, List.setIfInBounds_toArray, List.set_cons_zero, List.set_cons_succ]
  refine Thr.done ?_
  go_wp2_with fail
  go_ret
  exact ⟨rfl, 1, _, by rw [HW2.out, HW.out, alloc_eq_grow, alloc_eq_grow, alloc_eq_grow, grow_grow, grow_grow]; rfl⟩

theorem cmpLays50 (blk off size : Nat) (w : World) : CmpLays Try.prog 50 #[] cc 4 cmpC blk off size w := fun _ _ _ _ x y => closure50 x y _

theorem flat_cv (l : List Cel) : flatK cc 4 l.toArray = (cv l).toArray := by
  refine ext_get! (by simp [length_cv]) fun t ht => ?_
  rw [size_flatK, List.size_toArray] at ht
  rw [get_flatK _ _ _ _ (by simpa using ht)]
  have hj : t / 4 < l.length := by omega
  have hb : l[t / 4]? = some l[t / 4] := List.getElem?_eq_getElem hj
  obtain ⟨h0, h1, h2, h3⟩ := cv_get l (t / 4) _ hb
  have e1 : l.toArray[t / 4]! = l[t / 4] := by simp [hj]
  rw [e1]
  have hm : t % 4 = 0 ∨ t % 4 = 1 ∨ t % 4 = 2 ∨ t % 4 = 3 := by omega
  rcases hm with h | h | h | h
  · rw [h]
    have e : t / 4 * 4 = t := by omega
    rw [e] at h0
    have : (cv l).toArray[t]! = .int .u32 (l[t / 4].id : Int) := by simp_all
    rw [this]; rfl
  · rw [h]
    have e : t / 4 * 4 + 1 = t := by omega
    rw [e] at h1
    have : (cv l).toArray[t]! = .int .i64 (l[t / 4].row : Int) := by simp_all
    rw [this]; rfl
  · rw [h]
    have e : t / 4 * 4 + 2 = t := by omega
    rw [e] at h2
    have : (cv l).toArray[t]! = .int .i64 (l[t / 4].s : Int) := by simp_all
    rw [this]; rfl
  · rw [h]
    have e : t / 4 * 4 + 3 = t := by omega
    rw [e] at h3
    have : (cv l).toArray[t]! = .int .i64 (l[t / 4].o : Int) := by simp_all
    rw [this]; rfl

theorem toList_put (F c : Array Value) (h : F.size ≤ c.size) : (putCells id 0 F c).toList.take F.size = F.toList := by
  apply List.ext_getElem?
  intro i
  by_cases hi : i < F.size
  · have h1 : i < c.size := by omega
    rw [List.getElem?_take_of_lt hi]
    simp [putCells, h1, hi]
  · rw [List.getElem?_eq_none (by simp; omega), List.getElem?_eq_none (by simp; omega)]

/-- Sorted by rows, then starts. -/
def SortC (l : List Cel) : Prop := l.Pairwise fun x y => ¬ (y.row < x.row ∨ y.row = x.row ∧ y.s < x.s)

theorem sort_cells {w : World} {v : Value} {l : List Cel} (h : OwnC w v l) (hl : l.length ≤ 1073741824) (h0 : l.length ≠ 0) :
    Calls Try.prog 49 #[v, .func (.func 50) #[] #[]] w fun e w' => e = .returned (.tuple #[]) ∧ ∃ l', l'.Perm l ∧ SortC l' ∧ OwnC w' v l' ∧ Keeps (fun k => v.ownBlock = some k) w w' := by
  rcases h.2 with ⟨_, hz⟩ | ⟨g, cap, cur, rfl, _, hg, hn, hc, hs, ht⟩
  · exact absurd hz h0
  have hglt : g < w.heap.size := (Array.getElem?_eq_some_iff.1 hg).1
  have hH : HoldsK cc 4 w g 0 l.toArray := by
    intro j hj
    rw [size_flatK, List.size_toArray] at hj
    refine ⟨?_, by simp [World.frozen?, hg]⟩
    rw [flat_cv, Nat.zero_add]
    have hjl : j < (cv l).length := by rw [length_cv]; exact hj
    rw [own_cells h j (cv l)[j] (List.getElem?_eq_getElem hjl)]
    simp [hjl]
  have eg : ∀ args w, (callFunc 50 args).run Try.prog w = .ok (.enter 50 args) w := enters_of Try.func50 (by kernel_rfl) rfl
  have hcon := AnyQ.slices_SortFunc Try.laysSlF06_f49 4 Try.isAgg34 Try.sizeOf34 cc (fun _ => rfl) (fun x v hv => by simp [cc] at hv; rcases hv with rfl | rfl | rfl | rfl <;> rfl) cmpC swoC 50 #[] g 0 cap l.toArray w eg (cmpLays50 g 0 l.toArray.size w) hH hglt (by simp; omega)
  change Calls Try.prog 49 _ _ _ at hcon
  rw [List.size_toArray] at hcon
  refine hcon.mono ?_
  rintro e w' ⟨rfl, d', n, os, hp, hsd, rfl⟩
  refine ⟨rfl, d'.toList, ?_, ?_, ?_, ?_⟩
  · have h3 := hp.2.2
    have hsz : d'.size = l.length := by rw [hp.1, List.size_toArray]
    have e1 : d'.extract 0 l.length = d' := by rw [← hsz]; exact Array.extract_size ..
    have e2 : l.toArray.extract 0 l.length = l.toArray := by
      have := Array.extract_size (xs := l.toArray)
      rwa [List.size_toArray] at this
    rw [e1, e2] at h3
    simpa using h3
  · have hsz : d'.size = l.length := by rw [hp.1, List.size_toArray]
    refine List.pairwise_iff_getElem.2 fun i j hi hj hij => ?_
    rw [Array.length_toList] at hi hj
    have := hsd i j (Nat.zero_le _) hij (by omega)
    rw [ltC] at this
    simp only [hi, hj, getElem!_pos, decide_eq_false_iff_not] at this
    simpa using this
  · have hsz : d'.size = l.length := by rw [hp.1, List.size_toArray]
    have hlen : d'.toList.length = l.length := by simp [hsz]
    rw [OwnC, hlen]
    have hfl := flat_cv d'.toList
    rw [Array.toArray_toList] at hfl
    have hget : (sortWorldK cc 4 w g 0 n d' os).heap[g]? = some (.cells (putCells id 0 (flatK cc 4 d') cur) 34 (0, 0)) := by
      unfold sortWorldK putRowK putRow mapBlock grow Sort.ahead
      simp only
      rw [Array.getElem?_append_left (by simpa using hglt), Array.getElem?_modify, if_pos rfl, hg]
      rfl
    refine Row.own_mk hget (Nat.zero_le _) hn hc (by simp [putCells, hs]) ?_
    have hF : (flatK cc 4 d').size = l.length * 4 := by rw [size_flatK, hsz]
    rw [← hF, toList_put _ _ (by rw [hF, hs]; exact Nat.mul_le_mul_right _ hn), hfl]
  · refine ⟨rfl, rfl, rfl, ?_, fun k hk hne => ?_⟩
    · unfold sortWorldK putRowK putRow mapBlock grow Sort.ahead
      simp
    · have hkg : g ≠ k := fun e => hne (by rw [← e]; rfl)
      unfold sortWorldK putRowK putRow mapBlock grow Sort.ahead
      simp only
      rw [Array.getElem?_append_left (by simpa using hk), Array.getElem?_modify, if_neg hkg]

theorem own_new {w : World} {base e size n : Nat} {v : Value} {xs : List Value} (h : w.ownsRow base e size v n xs) : w.ownsRow 0 e size v n xs ∧ ∀ k, v.ownBlock = some k → base ≤ k := by
  refine ⟨⟨h.1, ?_⟩, ?_⟩
  · rcases h.2 with hh | ⟨g, cap, cur, h1, h2, h3⟩
    · exact .inl hh
    · exact .inr ⟨g, cap, cur, h1, Nat.zero_le _, h3⟩
  · intro k hk
    rcases h.2 with ⟨rfl, _⟩ | ⟨g, cap, cur, rfl, h2, h3⟩
    · simp [Value.ownBlock] at hk
    · simp [Value.ownBlock] at hk; omega
theorem cloneC {w : World} {v : Value} {l : List Cel} (h : OwnC w v l) (hl : l.length ≤ 1073741824) :
    Calls Try.prog 31 #[v] w fun e w' => ∃ v', e = .returned v' ∧ OwnC w' v' l ∧ (∀ k, v'.ownBlock = some k → w.heap.size ≤ k) ∧ Below w.heap.size w w' := by
  rcases h.2 with ⟨rfl, hz⟩ | ⟨g, cap, cur, rfl, _, hg, hn, hc, hs, ht⟩
  · refine (AnyE.slices_Clone_nil Try.laysSlE041_f31 0 0 w).mono ?_
    rintro e w' ⟨rfl, rfl⟩
    exact ⟨_, rfl, h, fun k hk => by simp [Value.ownBlock] at hk, Below.refl _ _⟩
  · obtain ⟨i0, hi0, hz0, hz1, hz2⟩ := info_parts info34
    refine (AnyE.slices_Clone Try.laysSlE041_f31 i0 (.agg #[.int .u32 0, .int .i64 0, .int .i64 0, .int .i64 0]) 4 32 hi0 hz0 hz1 hz2 rfl (by omega) Try.sizeOf34 g 0 l.length cap (cv l) w (by simp [length_cv]) (by simp [maxLen]; omega) (by omega) (fun j u hu => by rw [Nat.zero_add]; exact own_cells h j u hu) (one_cv l)).mono ?_
    rintro e w' ⟨v', rfl, h1, h2, h3⟩
    obtain ⟨h4, h5⟩ := own_new h1
    exact ⟨v', rfl, h4, h5, h3⟩
end Go.Proofs.Ytnokmbjgfglaoaa
