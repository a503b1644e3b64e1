/- Lists of numbers and of blocks that the yard owns, and what the library's functions do to them. -/
import Derived.Test.YthmgnfkjkdmdoaaShelf
import Derived.Test.YthmgnfkjkdmdoaaSlint
import Derived.Test.YthmgnfkjkdmdoaaMath
set_option linter.unusedSimpArgs false
set_option linter.unusedVariables false
namespace Go.Proofs.Ythmgnfkjkdmdoaa
open Go Go.RowKit Bud

structure Blk where
  s : Nat
  o : Nat
  deriving DecidableEq

def nv (l : List Nat) : List Value := l.map fun (x : Nat) => Value.int .i64 (x : Int)
def bc (b : Blk) : List Value := [.int .i64 (b.s : Int), .int .i64 (b.o : Int)]
def bv (l : List Blk) : List Value := l.flatMap bc

theorem length_nv (l : List Nat) : (nv l).length = l.length := by simp [nv]
theorem length_bv (l : List Blk) : (bv l).length = l.length * 2 := by
  induction l with
  | nil => rfl
  | cons b l ih => simp only [bv, List.flatMap_cons, List.length_append, List.length_cons] at *; rw [ih]; simp [bc]; omega

theorem one_nv (l : List Nat) : ∀ u ∈ nv l, u.oneCell' = true := by
  intro u hu
  simp only [nv, List.mem_map] at hu
  obtain ⟨x, _, rfl⟩ := hu
  rfl
theorem one_bv (l : List Blk) : ∀ u ∈ bv l, u.oneCell' = true := by
  intro u hu
  simp only [bv, List.mem_flatMap, bc] at hu
  obtain ⟨b, _, hu⟩ := hu
  simp only [List.mem_cons, List.not_mem_nil, or_false] at hu
  rcases hu with rfl | rfl <;> rfl

theorem bv_take (l : List Blk) : ∀ i, (bv l).take (i * 2) = bv (l.take i) := by
  induction l with
  | nil => intro i; simp [bv]
  | cons b l ih =>
    intro i
    cases i with
    | zero => simp [bv]
    | succ i =>
      have e : bv (b :: l) = .int .i64 (b.s : Int) :: .int .i64 (b.o : Int) :: bv l := by simp [bv, bc]
      rw [e, show (i + 1) * 2 = i * 2 + 1 + 1 by omega, List.take_succ_cons, List.take_succ_cons, ih i, List.take_succ_cons]
      simp [bv, bc]
theorem bv_drop (l : List Blk) : ∀ i, (bv l).drop (i * 2) = bv (l.drop i) := by
  induction l with
  | nil => intro i; simp [bv]
  | cons b l ih =>
    intro i
    cases i with
    | zero => simp [bv]
    | succ i =>
      have e : bv (b :: l) = .int .i64 (b.s : Int) :: .int .i64 (b.o : Int) :: bv l := by simp [bv, bc]
      rw [e, show (i + 1) * 2 = i * 2 + 1 + 1 by omega, List.drop_succ_cons, List.drop_succ_cons, ih i, List.drop_succ_cons]
theorem bv_append (l m : List Blk) : bv (l ++ m) = bv l ++ bv m := by simp [bv]
theorem nv_append (l m : List Nat) : nv (l ++ m) = nv l ++ nv m := by simp [nv]
theorem nv_take (l : List Nat) (i : Nat) : (nv l).take i = nv (l.take i) := by simp [nv]
theorem nv_drop (l : List Nat) (i : Nat) : (nv l).drop i = nv (l.drop i) := by simp [nv]

/-- What is owned lies in a block of its own: numbers, blocks. -/
def OwnN (w : World) (v : Value) (l : List Nat) : Prop := w.ownsRow 0 3 1 v l.length (nv l)
def OwnB (w : World) (v : Value) (l : List Blk) : Prop := w.ownsRow 0 31 2 v l.length (bv l)

/-- What a call does to a row: it alone may be written; it comes back at the same place, or at a new one. -/
structure Moved (w : World) (v : Value) (w' : World) (v' : Value) : Prop where
  grown : w.grownBy w' v.ownBlock
  at_ : v'.ownBlock = v.ownBlock ∨ ∃ b, v'.ownBlock = some b ∧ w.heap.size ≤ b

theorem own_form {w : World} {base e size n : Nat} {v : Value} {xs : List Value} (h : w.ownsRow base e size v n xs) : ∃ a c, v = .slice a n c ∧ n ≤ c ∧ c ≤ maxLen ∧ (n = 0 ∨ ∃ g, a = some ⟨g, 0, none⟩) := by
  rcases h.2 with ⟨rfl, rfl⟩ | ⟨g, cap, cur, rfl, _, _, hn, hc, _⟩
  · exact ⟨none, 0, rfl, Nat.le_refl _, by simp [maxLen], .inl rfl⟩
  · exact ⟨_, cap, rfl, hn, hc, .inr ⟨g, rfl⟩⟩

theorem own_cells {w : World} {base e size n g c : Nat} {xs : List Value} (h : w.ownsRow base e size (.slice (some ⟨g, 0, none⟩) n c) n xs) (j : Nat) (u : Value) (hu : xs[j]? = some u) : w.cell? ⟨g, j, none⟩ = some u := by
  have := h.cells (g := g) rfl j u hu
  rw [Addr.add_lit, Nat.zero_add] at this
  exact this

/-- slices.BinarySearch: where a number stands, or would. -/
theorem search_own {w : World} {v : Value} {l : List Nat} (h : OwnN w v l) (hs : SortK id l) (hl : l.length < 4611686018427387904) (x : Nat) :
    Calls Try.prog 40 #[v, .int .i64 (x : Int)] w fun e w' => e = .returned (.tuple #[.int .i64 ((posK id x l : Nat) : Int), .bool (decide (x ∈ l))]) ∧ ∃ q, w' = w.drewN q := by
  obtain ⟨a, c, rfl, hn, hc, hg⟩ := own_form h
  rcases Nat.eq_zero_or_pos l.length with h0 | h0
  · have e := List.length_eq_zero_iff.1 h0
    subst e
    refine (Try.slices_BinarySearch_int_empty a c x w).mono ?_
    rintro e w' ⟨rfl, rfl⟩
    exact ⟨by simp [posK], 0, rfl⟩
  · obtain ⟨g, rfl⟩ := hg.resolve_left (by omega)
    have hz : (l.map (fun x : Nat => (x : Int))).length = l.length := by simp
    refine (Try.slices_BinarySearch_int g 0 l.length c (l.map (fun x : Nat => (x : Int))) x w (by omega) hl (fun j hj => ?_) ?_).mono ?_
    · have hj' : j < l.length := by omega
      rw [Nat.zero_add]
      refine own_cells h j _ ?_
      simp [nv, List.getD_eq_getElem?_getD, hj']
    · rw [List.take_of_length_le (by omega)]
      rw [List.pairwise_map]
      exact hs.imp fun h => by simp at h; omega
    · rintro e w' ⟨rfl, q, rfl⟩
      refine ⟨?_, q, rfl⟩
      rw [List.take_of_length_le (by omega)]
      have e1 : (l.map (fun x : Nat => (x : Int))).countP (fun y => decide (y < (x : Int))) = posK id x l := by
        rw [List.countP_map]
        refine List.countP_congr fun y _ => ?_
        simp
      have e2 : (l.map (fun x : Nat => (x : Int))).contains (x : Int) = decide (x ∈ l) := by
        rw [Bool.eq_iff_iff]
        simp only [List.contains_iff_mem, List.mem_map, decide_eq_true_eq]
        constructor
        · rintro ⟨y, hy, e⟩
          have : y = x := by omega
          rwa [← this]
        · exact fun h => ⟨x, h, rfl⟩
      rw [e1, e2]

/-- slices.Delete of one number. -/
theorem delN {w : World} {v : Value} {l : List Nat} (h : OwnN w v l) (i : Nat) (hi : i < l.length) :
    Calls Try.prog 44 #[v, .int .i64 (i : Int), .int .i64 ((i : Int) + 1)] w fun e w' => ∃ v', e = .returned v' ∧ OwnN w' v' (l.eraseIdx i) ∧ Moved w v w' v' := by
  refine (delete_ints h hi (one_nv l)).mono ?_
  rintro e w' ⟨v', rfl, ho, hg, hb⟩
  refine ⟨v', rfl, ?_, hg, .inl hb⟩
  unfold OwnN
  rw [List.length_eraseIdx_of_lt hi, List.eraseIdx_eq_take_drop_succ, nv_append, ← nv_take, ← nv_drop]
  simpa only [Nat.mul_one] using ho

/-- slices.Insert of one number; it lies in a new block of its own. -/
theorem insN {w : World} {v : Value} {l : List Nat} (h : OwnN w v l) (i x vb : Nat) (hi : i ≤ l.length) (hv : w.heap[vb]? = some (.cells #[.int .i64 (x : Int)] 3 (0, 0))) (hne : v.ownBlock ≠ some vb) (hl : l.length ≤ 1073741824) :
    Calls Try.prog 41 #[v, .int .i64 (i : Int), .slice (some ⟨vb, 0, none⟩) 1 1] w fun e w' => ∃ v', e = .returned v' ∧ OwnN w' v' (l.take i ++ x :: l.drop i) ∧ Moved w v w' v' := by
  refine (insert_ints (x := [.int .i64 (x : Int)]) h hi hv hne rfl (one_nv l) (by intro u hu; simp at hu; subst hu; rfl) (by omega) (Nat.zero_le _)).mono ?_
  rintro e w' ⟨v', rfl, ho, hg, hb⟩
  refine ⟨v', rfl, ?_, hg, hb.imp id fun h => ⟨_, h, Nat.le_refl _⟩⟩
  unfold OwnN
  have e1 : (l.take i ++ x :: l.drop i).length = l.length + 1 := by simp; omega
  have e2 : nv (l.take i ++ x :: l.drop i) = (nv l).take i ++ [.int .i64 (x : Int)] ++ (nv l).drop i := by
    rw [nv_take, nv_drop]; simp [nv]
  rw [e1, e2]
  simpa only [Nat.mul_one] using ho

/-- slices.Delete of one block. -/
theorem delB {w : World} {v : Value} {l : List Blk} (h : OwnB w v l) (i : Nat) (hi : i < l.length) :
    Calls Try.prog 58 #[v, .int .i64 (i : Int), .int .i64 ((i : Int) + 1)] w fun e w' => ∃ v', e = .returned v' ∧ OwnB w' v' (l.eraseIdx i) ∧ Moved w v w' v' := by
  refine (delete_blocks h hi (one_bv l)).mono ?_
  rintro e w' ⟨v', rfl, ho, hg, hb⟩
  refine ⟨v', rfl, ?_, hg, .inl hb⟩
  unfold OwnB
  rw [List.length_eraseIdx_of_lt hi, List.eraseIdx_eq_take_drop_succ, bv_append, ← bv_take, ← bv_drop]
  exact ho

/-- slices.Insert of one block. -/
theorem insB {w : World} {v : Value} {l : List Blk} (h : OwnB w v l) (i vb : Nat) (x : Blk) (hi : i ≤ l.length) (hv : w.heap[vb]? = some (.cells #[.int .i64 (x.s : Int), .int .i64 (x.o : Int)] 31 (0, 0))) (hne : v.ownBlock ≠ some vb) (hl : l.length ≤ 1073741824) :
    Calls Try.prog 68 #[v, .int .i64 (i : Int), .slice (some ⟨vb, 0, none⟩) 1 1] w fun e w' => ∃ v', e = .returned v' ∧ OwnB w' v' (l.take i ++ x :: l.drop i) ∧ Moved w v w' v' := by
  refine (insert_blocks (x := bc x) h hi hv hne rfl (one_bv l) (by intro u hu; simp [bc] at hu; rcases hu with rfl | rfl <;> rfl) (by omega) (Nat.zero_le _)).mono ?_
  rintro e w' ⟨v', rfl, ho, hg, hb⟩
  refine ⟨v', rfl, ?_, hg, hb.imp id fun h => ⟨_, h, Nat.le_refl _⟩⟩
  unfold OwnB
  have e1 : (l.take i ++ x :: l.drop i).length = l.length + 1 := by simp; omega
  have e2 : bv (l.take i ++ x :: l.drop i) = (bv l).take (i * 2) ++ bc x ++ (bv l).drop (i * 2) := by
    rw [bv_take, bv_drop, bv_append]; simp [bv]
  rw [e1, e2]
  exact ho

end Go.Proofs.Ythmgnfkjkdmdoaa
