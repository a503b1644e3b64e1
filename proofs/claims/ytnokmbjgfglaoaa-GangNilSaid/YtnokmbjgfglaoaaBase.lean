/- Rows of cells in memory, what stays when something else turns, slices.Delete of one cell. -/
import Derived.Test.YtnokmbjgfglaoaaSli
import Derived.Test.YtnokmbjgfglaoaaApp
set_option linter.unusedSimpArgs false
set_option linter.unusedVariables false
namespace Go.Proofs.Ytnokmbjgfglaoaa
open Go Go.RowKit

/-- A cell: a job, its row, its block. -/
structure Cel where
  id : Nat
  row : Nat
  s : Nat
  o : Nat
  deriving DecidableEq

def cc (b : Cel) : List Value := [.int .u32 (b.id : Int), .int .i64 (b.row : Int), .int .i64 (b.s : Int), .int .i64 (b.o : Int)]
def cv (l : List Cel) : List Value := l.flatMap cc

theorem length_cv (l : List Cel) : (cv l).length = l.length * 4 := by
  induction l with
  | nil => rfl
  | cons b l ih => simp only [cv, List.flatMap_cons, List.length_append, List.length_cons] at *; rw [ih]; simp [cc]; omega
theorem one_cv (l : List Cel) : ∀ u ∈ cv l, u.oneCell' = true := by
  intro u hu
  simp only [cv, List.mem_flatMap, cc] at hu
  obtain ⟨b, _, hu⟩ := hu
  simp only [List.mem_cons, List.not_mem_nil, or_false] at hu
  rcases hu with rfl | rfl | rfl | rfl <;> rfl
theorem cv_append (l m : List Cel) : cv (l ++ m) = cv l ++ cv m := by simp [cv]
theorem cv_split (l : List Cel) (i : Nat) : (cv l).take (i * 4) = cv (l.take i) ∧ (cv l).drop (i * 4) = cv (l.drop i) := by
  rcases Nat.le_total i l.length with h | h
  · have e : cv l = cv (l.take i) ++ cv (l.drop i) := by rw [← cv_append, List.take_append_drop]
    have hl : (cv (l.take i)).length = i * 4 := by rw [length_cv, List.length_take, Nat.min_eq_left h]
    rw [e]
    exact ⟨by rw [List.take_append_of_le_length (by omega), List.take_of_length_le (by omega)], by rw [List.drop_append_of_le_length (by omega), List.drop_eq_nil_of_le (by omega), List.nil_append]⟩
  · have hl := length_cv l
    rw [List.take_of_length_le (by omega), List.drop_eq_nil_of_le (by omega), List.take_of_length_le h, List.drop_eq_nil_of_le h]
    exact ⟨rfl, rfl⟩
theorem cv_take (l : List Cel) (i : Nat) : (cv l).take (i * 4) = cv (l.take i) := (cv_split l i).1
theorem cv_drop (l : List Cel) (i : Nat) : (cv l).drop (i * 4) = cv (l.drop i) := (cv_split l i).2
theorem cv_get (l : List Cel) (j : Nat) (b : Cel) (h : l[j]? = some b) : (cv l)[j * 4]? = some (.int .u32 (b.id : Int)) ∧ (cv l)[j * 4 + 1]? = some (.int .i64 (b.row : Int)) ∧ (cv l)[j * 4 + 2]? = some (.int .i64 (b.s : Int)) ∧ (cv l)[j * 4 + 3]? = some (.int .i64 (b.o : Int)) := by
  have hj : j < l.length := (List.getElem?_eq_some_iff.1 h).1
  have hb : l[j] = b := (List.getElem?_eq_some_iff.1 h).2
  have e : l = l.take j ++ (b :: l.drop (j + 1)) := by rw [← hb, List.getElem_cons_drop, List.take_append_drop]
  have hl : (cv (l.take j)).length = j * 4 := by rw [length_cv, List.length_take, Nat.min_eq_left (by omega)]
  rw [e, cv_append]
  have ec : cv (b :: l.drop (j + 1)) = cc b ++ cv (l.drop (j + 1)) := rfl
  rw [ec]
  refine ⟨?_, ?_, ?_, ?_⟩ <;> (rw [List.getElem?_append_right (by omega), hl]; simp [cc])

/-- All blocks but those of F are as they were. -/
structure Keeps (F : Nat → Prop) (w w' : World) : Prop where
  os : w'.os = w.os
  tape : w'.tape = w.tape
  output : w'.output = w.output
  size : w.heap.size ≤ w'.heap.size
  block : ∀ k, k < w.heap.size → ¬ F k → w'.heap[k]? = w.heap[k]?

theorem Keeps.refl (F : Nat → Prop) (w : World) : Keeps F w w := ⟨rfl, rfl, rfl, Nat.le_refl _, fun _ _ _ => rfl⟩
theorem Keeps.mono {F G : Nat → Prop} {w w' : World} (h : Keeps F w w') (hs : ∀ k, k < w.heap.size → F k → G k) : Keeps G w w' := ⟨h.os, h.tape, h.output, h.size, fun k hk hn => h.block k hk fun hf => hn (hs k hk hf)⟩
theorem Keeps.trans {F G : Nat → Prop} {a b c : World} (h : Keeps F a b) (k : Keeps G b c) (hs : ∀ i, i < a.heap.size → G i → F i) : Keeps F a c :=
  ⟨k.os.trans h.os, k.tape.trans h.tape, k.output.trans h.output, Nat.le_trans h.size k.size, fun i hi hn => (k.block i (Nat.lt_of_lt_of_le hi h.size) fun hg => hn (hs i hi hg)).trans (h.block i hi hn)⟩
theorem Keeps.of_below {F : Nat → Prop} {w w' : World} (h : Below w.heap.size w w') : Keeps F w w' := ⟨h.os, h.tape, h.output, h.size, fun k hk _ => h.block k hk⟩
theorem Keeps.of_grown {w w' : World} {r : Option Nat} (h : w.grownBy w' r) : Keeps (fun k => some k = r) w w' := ⟨h.os, h.tape, h.output, h.size, fun k hk hn => h.block k hk hn⟩
theorem Keeps.setCell {F : Nat → Prop} {w w' : World} (h : Keeps F w w') (a : Addr) (v : Value) (ha : F a.block ∨ w.heap.size ≤ a.block) : Keeps F w (w'.setCell a v) :=
  h.trans (G := fun k => k = a.block) ⟨rfl, rfl, rfl, by simp [World.setCell], fun k _ hn => Below.heap_setCell _ _ _ _ hn⟩ (fun i hi e => by
    subst e
    exact ha.resolve_right (by omega))
theorem Keeps.cell {F : Nat → Prop} {w w' : World} (h : Keeps F w w') {a : Addr} {v : Value} (hc : w.cell? a = some v) (hn : ¬ F a.block) : w'.cell? a = some v :=
  (World.cell?_of_block (h.block a.block (World.block_lt_of_cell? w a hc) hn)).trans hc

theorem below_drewN' (w : World) (q : Nat) : Below w.heap.size w (w.drewN q) := ⟨rfl, rfl, rfl, Nat.le_refl _, fun _ _ => rfl⟩
theorem below_alloc' (w : World) (o : Obj) : Below w.heap.size w (w.alloc o) := (Below.refl _ _).alloc (Nat.le_refl _) o

theorem own_keeps {F : Nat → Prop} {w w' : World} {base e size n : Nat} {v : Value} {xs : List Value} (h : w.ownsRow base e size v n xs) (hk : Keeps F w w') (hn : ∀ k, v.ownBlock = some k → ¬ F k) : w'.ownsRow base e size v n xs := by
  refine ⟨h.1, ?_⟩
  rcases h.2 with hh | ⟨g, cap, cur, rfl, hb, hg, rest⟩
  · exact .inl hh
  · refine .inr ⟨g, cap, cur, rfl, hb, ?_, rest⟩
    rw [hk.block g (Array.getElem?_eq_some_iff.1 hg).1 (hn g rfl)]
    exact hg

theorem box_heap (w : World) (c : Array Value) (t : TypeId) : (w.alloc (.cells c t)).heap[w.heap.size]? = some (.cells c t (0, 0)) := heap_alloc_new w _
theorem box_cell (w : World) (c : Array Value) (t : TypeId) (k : Nat) : (w.alloc (.cells c t)).cell? ⟨w.heap.size, k, none⟩ = c[k]? := by
  unfold World.cell?
  rw [show (w.alloc (.cells c t)).heap[(⟨w.heap.size, k, none⟩ : Addr).block]? = some (.cells c t (0, 0)) from heap_alloc_new w _]
  rfl


/-- What is owned lies in a block of its own. -/
def OwnC (w : World) (v : Value) (l : List Cel) : Prop := w.ownsRow 0 34 4 v l.length (cv l)
structure Moved (w : World) (v : Value) (w' : World) (v' : Value) : Prop where
  grown : w.grownBy w' v.ownBlock
  at_ : v'.ownBlock = v.ownBlock ∨ ∃ b, v'.ownBlock = some b ∧ w.heap.size ≤ b

theorem own_form {w : World} {base e size n : Nat} {v : Value} {xs : List Value} (h : w.ownsRow base e size v n xs) : ∃ a c, v = .slice a n c ∧ n ≤ c ∧ c ≤ maxLen ∧ (n = 0 ∨ ∃ g, a = some ⟨g, 0, none⟩) := by
  rcases h.2 with ⟨rfl, rfl⟩ | ⟨g, cap, cur, rfl, _, _, hn, hc, _⟩
  · exact ⟨none, 0, rfl, Nat.le_refl _, by simp [maxLen], .inl rfl⟩
  · exact ⟨_, cap, rfl, hn, hc, .inr ⟨g, rfl⟩⟩

theorem own_cells {w : World} {base e size n g c : Nat} {xs : List Value} (h : w.ownsRow base e size (.slice (some ⟨g, 0, none⟩) n c) n xs) (j : Nat) (u : Value) (hu : xs[j]? = some u) : w.cell? ⟨g, j, none⟩ = some u := by
  have := h.cells (g := g) rfl j u hu
  rw [Addr.add_lit, Nat.zero_add] at this
  exact this


theorem own_below {w w' : World} {base e size n : Nat} {v : Value} {xs : List Value} (h : w.ownsRow base e size v n xs) (hb : Below w.heap.size w w') : w'.ownsRow base e size v n xs :=
  own_keeps (F := fun _ => False) h (Keeps.of_below hb) fun _ _ => id
theorem OwnC.four {w : World} {g c n : Nat} {l : List Cel} (h : OwnC w (.slice (some ⟨g, 0, none⟩) n c) l) (hn : n = l.length) (j : Nat) (b : Cel) (hj : l[j]? = some b) :
    w.cell? ⟨g, j * 4, none⟩ = some (.int .u32 (b.id : Int)) ∧ w.cell? ⟨g, j * 4 + 1, none⟩ = some (.int .i64 (b.row : Int)) ∧ w.cell? ⟨g, j * 4 + 2, none⟩ = some (.int .i64 (b.s : Int)) ∧ w.cell? ⟨g, j * 4 + 3, none⟩ = some (.int .i64 (b.o : Int)) := by
  subst hn
  obtain ⟨h0, h1, h2, h3⟩ := cv_get l j b hj
  exact ⟨own_cells h _ _ h0, own_cells h _ _ h1, own_cells h _ _ h2, own_cells h _ _ h3⟩

/-- slices.Delete of one cell. -/
theorem delC {w : World} {v : Value} {l : List Cel} (h : OwnC w v l) (i : Nat) (hi : i < l.length) :
    Calls Try.prog 40 #[v, .int .i64 (i : Int), .int .i64 ((i : Int) + 1)] w fun e w' => ∃ v', e = .returned v' ∧ OwnC w' v' (l.eraseIdx i) ∧ Moved w v w' v' := by
  refine (delete_cells h hi (one_cv l)).mono ?_
  rintro e w' ⟨v', rfl, ho, hg, hb⟩
  refine ⟨v', rfl, ?_, hg, .inl hb⟩
  unfold OwnC
  rw [List.length_eraseIdx_of_lt hi, List.eraseIdx_eq_take_drop_succ, cv_append, ← cv_take, ← cv_drop]
  exact ho

theorem hb_grown {B : Nat} {w w' : World} {r : Option Nat} (h : w.grownBy w' r) (hr : ∀ k, r = some k → B ≤ k) (hB : B ≤ w.heap.size := by omega) : Below B w w' := by
  refine ⟨h.os, h.tape, h.output, h.size, fun k hk => h.block k (by omega) fun e => ?_⟩
  have := hr k e.symm
  omega
theorem shl_one (o P : Nat) (ho : o ≤ 10) (hP : P = 2 ^ o) (yk : IntKind) : Op.shift .shl .i64 1 yk (o : Int) = pure (.int .i64 (P : Int)) := by
  rw [shift_shl_i64 yk 1 (o : Int) (by omega) (by omega)]
  have e : (1 : Int) * 2 ^ (o : Int).toNat = ((2 ^ o : Nat) : Int) := by rw [Int.toNat_natCast, Int.one_mul]; push_cast; rfl
  have hb : 2 ^ o ≤ 2 ^ 10 := Nat.pow_le_pow_right (by omega) ho
  rw [e, hP]
  generalize 2 ^ o = Q at *
  have hq : IntKind.i64.wrap (Q : Int) = (Q : Int) := by rw [IntKind.wrap_i64]; omega
  rw [hq]
end Go.Proofs.Ytnokmbjgfglaoaa
