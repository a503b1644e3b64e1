/- The yard in memory: a block of 14 cells (the order, eleven lists of free starts, the taken blocks, the failed workers), each list in a block of its own; what a change of one list makes of it. -/
import Derived.Test.YthmgnfkjkdmdoaaOwn
set_option linter.unusedSimpArgs false
set_option linter.unusedVariables false
namespace Go.Proofs.Ythmgnfkjkdmdoaa
open Go Go.RowKit Bud

structure Yd where
  n : Nat
  free : Nat → List Nat
  taken : List Blk
  failed : List Nat

/-- All blocks but those of F are as they were. -/
structure Keeps (F : Nat → Prop) (w w' : World) : Prop where
  os : w'.os = w.os
  tape : w'.tape = w.tape
  output : w'.output = w.output
  size : w.heap.size ≤ w'.heap.size
  block : ∀ k, k < w.heap.size → ¬ F k → w'.heap[k]? = w.heap[k]?

theorem Keeps.refl (F : Nat → Prop) (w : World) : Keeps F w w := ⟨rfl, rfl, rfl, Nat.le_refl _, fun _ _ _ => rfl⟩
theorem Keeps.mono {F G : Nat → Prop} {w w' : World} (h : Keeps F w w') (hs : ∀ k, k < w.heap.size → F k → G k) : Keeps G w w' := ⟨h.os, h.tape, h.output, h.size, fun k hk hn => h.block k hk fun hf => hn (hs k hk hf)⟩
theorem Keeps.trans {F G : Nat → Prop} {a b c : World} (h : Keeps F a b) (k : Keeps G b c) (hs : ∀ i, i < a.heap.size → G i → F i) : Keeps F a c :=
  ⟨k.os.trans h.os, k.tape.trans h.tape, k.output.trans h.output, Nat.le_trans h.size k.size, fun i hi hn => (k.block i (Nat.lt_of_lt_of_le hi h.size) fun hg => hn (hs i hi hg)).trans (h.block i hi hn)⟩
theorem Keeps.of_below {F : Nat → Prop} {w w' : World} (h : Below w.heap.size w w') : Keeps F w w' := ⟨h.os, h.tape, h.output, h.size, fun k hk _ => h.block k hk⟩
theorem Keeps.of_grown {w w' : World} {r : Option Nat} (h : w.grownBy w' r) : Keeps (fun k => some k = r) w w' := ⟨h.os, h.tape, h.output, h.size, fun k hk hn => h.block k hk hn⟩
theorem Keeps.setCell {F : Nat → Prop} {w w' : World} (h : Keeps F w w') (a : Addr) (v : Value) (ha : F a.block ∨ w.heap.size ≤ a.block) : Keeps F w (w'.setCell a v) :=
  h.trans (G := fun k => k = a.block) ⟨rfl, rfl, rfl, by simp [World.setCell], fun k _ hn => Below.heap_setCell _ _ _ _ hn⟩ (fun i hi e => by
    subst e
    exact ha.resolve_right (by omega))
theorem Keeps.cell {F : Nat → Prop} {w w' : World} (h : Keeps F w w') {a : Addr} {v : Value} (hc : w.cell? a = some v) (hn : ¬ F a.block) : w'.cell? a = some v :=
  (World.cell?_of_block (h.block a.block (World.block_lt_of_cell? w a hc) hn)).trans hc

theorem below_drewN' (w : World) (q : Nat) : Below w.heap.size w (w.drewN q) := ⟨rfl, rfl, rfl, Nat.le_refl _, fun _ _ => rfl⟩
theorem below_alloc' (w : World) (o : Obj) : Below w.heap.size w (w.alloc o) := (Below.refl _ _).alloc (Nat.le_refl _) o

theorem own_keeps {F : Nat → Prop} {w w' : World} {base e size n : Nat} {v : Value} {xs : List Value} (h : w.ownsRow base e size v n xs) (hk : Keeps F w w') (hn : ∀ k, v.ownBlock = some k → ¬ F k) : w'.ownsRow base e size v n xs := by
  refine ⟨h.1, ?_⟩
  rcases h.2 with hh | ⟨g, cap, cur, rfl, hb, hg, rest⟩
  · exact .inl hh
  · refine .inr ⟨g, cap, cur, rfl, hb, ?_, rest⟩
    rw [hk.block g (Array.getElem?_eq_some_iff.1 hg).1 (hn g rfl)]
    exact hg

theorem box_heap (w : World) (c : Array Value) (t : TypeId) : (w.alloc (.cells c t)).heap[w.heap.size]? = some (.cells c t (0, 0)) := heap_alloc_new w _
theorem box_cell (w : World) (c : Array Value) (t : TypeId) (k : Nat) : (w.alloc (.cells c t)).cell? ⟨w.heap.size, k, none⟩ = c[k]? := by
  unfold World.cell?
  rw [show (w.alloc (.cells c t)).heap[(⟨w.heap.size, k, none⟩ : Addr).block]? = some (.cells c t (0, 0)) from heap_alloc_new w _]
  rfl

/-- Where list number i lies. -/
def at_ (cs : Array Value) (i : Nat) : Value := cs.getD i undef

def foot (yb : Nat) (cs : Array Value) (k : Nat) : Prop := k = yb ∨ ∃ i, 1 ≤ i ∧ i < 14 ∧ (at_ cs i).ownBlock = some k

structure YardAt (w : World) (yb : Nat) (cs : Array Value) (y : Yd) : Prop where
  heap : w.heap[yb]? = some (.cells cs 62 (0, 0))
  size : cs.size = 14
  order : cs[0]? = some (.int .i64 (y.n : Int))
  le : y.n ≤ 10
  free : ∀ o, o < 11 → OwnN w (at_ cs (1 + o)) (y.free o)
  taken : OwnB w (at_ cs 12) y.taken
  failed : OwnN w (at_ cs 13) y.failed
  apart : ∀ i j k, 1 ≤ i → i < 14 → 1 ≤ j → j < 14 → (at_ cs i).ownBlock = some k → (at_ cs j).ownBlock = some k → i = j
  own : ∀ i, 1 ≤ i → i < 14 → (at_ cs i).ownBlock ≠ some yb

theorem YardAt.slot {w : World} {yb : Nat} {cs : Array Value} {y : Yd} (h : YardAt w yb cs y) (i : Nat) (h1 : 1 ≤ i) (h2 : i < 14) : ∃ e s n xs, w.ownsRow 0 e s (at_ cs i) n xs := by
  rcases (by omega : i < 12 ∨ i = 12 ∨ i = 13) with hh | rfl | rfl
  · have := h.free (i - 1) (by omega)
    rw [show 1 + (i - 1) = i by omega] at this
    exact ⟨_, _, _, _, this⟩
  · exact ⟨_, _, _, _, h.taken⟩
  · exact ⟨_, _, _, _, h.failed⟩

theorem YardAt.lt {w : World} {yb : Nat} {cs : Array Value} {y : Yd} (h : YardAt w yb cs y) : yb < w.heap.size := (Array.getElem?_eq_some_iff.1 h.heap).1

theorem YardAt.slot_lt {w : World} {yb : Nat} {cs : Array Value} {y : Yd} (h : YardAt w yb cs y) (i : Nat) (h1 : 1 ≤ i) (h2 : i < 14) (k : Nat) (hk : (at_ cs i).ownBlock = some k) : k < w.heap.size := by
  obtain ⟨e, s, n, xs, ho⟩ := h.slot i h1 h2
  exact (ho.lt k hk).2

theorem YardAt.foot_lt {w : World} {yb : Nat} {cs : Array Value} {y : Yd} (h : YardAt w yb cs y) (k : Nat) (hk : foot yb cs k) : k < w.heap.size := by
  rcases hk with rfl | ⟨i, h1, h2, hk⟩
  · exact h.lt
  · exact h.slot_lt i h1 h2 k hk

theorem YardAt.cell {w : World} {yb : Nat} {cs : Array Value} {y : Yd} (h : YardAt w yb cs y) (i : Nat) (hi : i < 14) : w.cell? ⟨yb, i, none⟩ = some (at_ cs i) := by
  simp [World.cell?, h.heap, at_, Array.getD_eq_getD_getElem?, h.size, hi]

theorem YardAt.order_cell {w : World} {yb : Nat} {cs : Array Value} {y : Yd} (h : YardAt w yb cs y) : w.cell? ⟨yb, 0, none⟩ = some (.int .i64 (y.n : Int)) := by
  simp [World.cell?, h.heap, h.order]

theorem YardAt.frozen {w : World} {yb : Nat} {cs : Array Value} {y : Yd} (h : YardAt w yb cs y) (i : Nat) : w.frozen? ⟨yb, i, none⟩ = false := by
  simp [World.frozen?, h.heap]

/-- Elsewhere something has turned. -/
theorem YardAt.keep {F : Nat → Prop} {w w' : World} {yb : Nat} {cs : Array Value} {y : Yd} (h : YardAt w yb cs y) (hk : Keeps F w w') (hn : ∀ k, foot yb cs k → ¬ F k) : YardAt w' yb cs y where
  heap := by rw [hk.block yb h.lt (hn yb (.inl rfl))]; exact h.heap
  size := h.size
  order := h.order
  le := h.le
  free := fun o ho => own_keeps (h.free o ho) hk fun k hk' => hn k (.inr ⟨1 + o, by omega, by omega, hk'⟩)
  taken := own_keeps h.taken hk fun k hk' => hn k (.inr ⟨12, by omega, by omega, hk'⟩)
  failed := own_keeps h.failed hk fun k hk' => hn k (.inr ⟨13, by omega, by omega, hk'⟩)
  apart := h.apart
  own := h.own

theorem YardAt.below {w w' : World} {yb : Nat} {cs : Array Value} {y : Yd} (h : YardAt w yb cs y) (hb : Below w.heap.size w w') : YardAt w' yb cs y :=
  h.keep (F := fun _ => False) (Keeps.of_below hb) fun _ _ => id

/-- What a method may do. -/
structure Step (w : World) (yb : Nat) (cs : Array Value) (w' : World) (cs' : Array Value) : Prop where
  keeps : Keeps (foot yb cs) w w'
  fresh : ∀ k, foot yb cs' k → foot yb cs k ∨ w.heap.size ≤ k

theorem Step.refl (w : World) (yb : Nat) (cs : Array Value) : Step w yb cs w cs := ⟨Keeps.refl _ _, fun _ => .inl⟩
theorem Step.trans {w w1 w2 : World} {yb : Nat} {cs cs1 cs2 : Array Value} (h : Step w yb cs w1 cs1) (k : Step w1 yb cs1 w2 cs2) : Step w yb cs w2 cs2 :=
  ⟨h.keeps.trans k.keeps fun i hi hf => (h.fresh i hf).resolve_right (by omega), fun i hi => (k.fresh i hi).elim (h.fresh i) fun hh => .inr (Nat.le_trans h.keeps.size hh)⟩
theorem Step.of_below {w w' : World} {yb : Nat} {cs : Array Value} (h : Below w.heap.size w w') : Step w yb cs w' cs := ⟨Keeps.of_below h, fun _ => .inl⟩
theorem Step.below {w w1 w2 : World} {yb : Nat} {cs cs1 : Array Value} (h : Step w yb cs w1 cs1) (hb : Below w1.heap.size w1 w2) : Step w yb cs w2 cs1 := h.trans (Step.of_below hb)

theorem at_set_same (cs : Array Value) (i : Nat) (v : Value) (h : i < cs.size) : at_ (cs.setIfInBounds i v) i = v := by
  simp [at_, Array.getD_eq_getD_getElem?, h]
theorem at_set_other (cs : Array Value) (i j : Nat) (v : Value) (h : i ≠ j) : at_ (cs.setIfInBounds i v) j = at_ cs j := by
  simp [at_, Array.getD_eq_getD_getElem?, Array.getElem?_setIfInBounds_ne h]

/-- One list has been changed, and is stored. -/
theorem YardAt.put {w w' : World} {yb : Nat} {cs : Array Value} {y : Yd} (h : YardAt w yb cs y) (i : Nat) (h1 : 1 ≤ i) (h2 : i < 14) {v' : Value} (hm : Moved w (at_ cs i) w' v') (hv : ∀ k, v'.ownBlock = some k → k < w'.heap.size) :
    (w'.setCell ⟨yb, i, none⟩ v').heap[yb]? = some (.cells (cs.setIfInBounds i v') 62 (0, 0)) ∧ (cs.setIfInBounds i v').size = 14 ∧ (cs.setIfInBounds i v')[0]? = some (.int .i64 (y.n : Int)) ∧
    (∀ j, 1 ≤ j → j < 14 → j ≠ i → at_ (cs.setIfInBounds i v') j = at_ cs j ∧ ∀ e s n xs, w.ownsRow 0 e s (at_ cs j) n xs → (w'.setCell ⟨yb, i, none⟩ v').ownsRow 0 e s (at_ cs j) n xs) ∧
    (∀ e s n xs, w'.ownsRow 0 e s v' n xs → (w'.setCell ⟨yb, i, none⟩ v').ownsRow 0 e s v' n xs) ∧
    (∀ a b k, 1 ≤ a → a < 14 → 1 ≤ b → b < 14 → (at_ (cs.setIfInBounds i v') a).ownBlock = some k → (at_ (cs.setIfInBounds i v') b).ownBlock = some k → a = b) ∧
    (∀ a, 1 ≤ a → a < 14 → (at_ (cs.setIfInBounds i v') a).ownBlock ≠ some yb) ∧ Step w yb cs (w'.setCell ⟨yb, i, none⟩ v') (cs.setIfInBounds i v') := by
  have hi : i < cs.size := by rw [h.size]; exact h2
  have hyb : w'.heap[yb]? = some (.cells cs 62 (0, 0)) := by
    rw [hm.grown.block yb h.lt (fun e => h.own i h1 h2 e.symm)]; exact h.heap
  have hvy : v'.ownBlock ≠ some yb := by
    intro e
    rcases hm.at_ with hh | ⟨b, hb, hle⟩
    · exact h.own i h1 h2 (hh ▸ e)
    · rw [hb] at e; injection e with e; have := h.lt; omega
  have hk : Keeps (fun k => some k = (at_ cs i).ownBlock) w w' := Keeps.of_grown hm.grown
  have hk2 : Keeps (fun k => some k = (at_ cs i).ownBlock ∨ k = yb) w (w'.setCell ⟨yb, i, none⟩ v') := Keeps.setCell (hk.mono fun k _ hh => .inl hh) _ _ (.inl (.inr rfl))
  have hcase : ∀ k, v'.ownBlock = some k → (at_ cs i).ownBlock = some k ∨ w.heap.size ≤ k := fun k hkk => by
    rcases hm.at_ with hh | ⟨b, hb, hle⟩
    · exact .inl (hh ▸ hkk)
    · rw [hb] at hkk; injection hkk with e; subst e; exact .inr hle
  have hne : ∀ j k, 1 ≤ j → j < 14 → j ≠ i → (at_ cs j).ownBlock = some k → v'.ownBlock ≠ some k := fun j k j1 j2 hji hj hv' => by
    rcases hcase k hv' with hh | hh
    · exact hji (h.apart j i k j1 j2 h1 h2 hj hh)
    · have := h.slot_lt j j1 j2 k hj; omega
  refine ⟨?_, by simp [h.size], ?_, ?_, ?_, ?_, ?_, ?_⟩
  · simp [World.setCell, hyb, Array.getElem?_modify]
  · rw [Array.getElem?_setIfInBounds_ne (by omega)]; exact h.order
  · intro j j1 j2 hj
    refine ⟨at_set_other cs i j v' (Ne.symm hj), fun e s n xs ho => own_keeps ho hk2 fun k hkk hF => ?_⟩
    rcases hF with hF | rfl
    · exact hj (h.apart j i k j1 j2 h1 h2 hkk hF.symm)
    · exact h.own j j1 j2 hkk
  · intro e s n xs ho
    exact own_keeps (F := fun k => k = yb) ho (Keeps.setCell (Keeps.refl _ _) _ _ (.inl rfl)) fun k hkk e => by subst e; exact hvy hkk
  · intro a b k a1 a2 b1 b2 ha hb
    by_cases hai : a = i
    · by_cases hbi : b = i
      · omega
      · subst hai
        rw [at_set_same _ _ _ hi] at ha
        rw [at_set_other _ _ _ _ (Ne.symm hbi)] at hb
        exact absurd ha (hne b k b1 b2 hbi hb)
    · rw [at_set_other _ _ _ _ (Ne.symm hai)] at ha
      by_cases hbi : b = i
      · subst hbi
        rw [at_set_same _ _ _ hi] at hb
        exact absurd hb (hne a k a1 a2 hai ha)
      · rw [at_set_other _ _ _ _ (Ne.symm hbi)] at hb
        exact h.apart a b k a1 a2 b1 b2 ha hb
  · intro a a1 a2
    by_cases hai : a = i
    · subst hai; rw [at_set_same _ _ _ hi]; exact hvy
    · rw [at_set_other _ _ _ _ (Ne.symm hai)]; exact h.own a a1 a2
  · refine ⟨hk2.mono fun k _ hF => hF.elim (fun hh => .inr ⟨i, h1, h2, hh.symm⟩) .inl, fun k hkf => ?_⟩
    rcases hkf with rfl | ⟨a, a1, a2, ha⟩
    · exact .inl (.inl rfl)
    · by_cases hai : a = i
      · subst hai
        rw [at_set_same _ _ _ hi] at ha
        exact (hcase k ha).imp (fun hh => .inr ⟨a, a1, a2, hh⟩) id
      · rw [at_set_other _ _ _ _ (Ne.symm hai)] at ha
        exact .inl (.inr ⟨a, a1, a2, ha⟩)

theorem own_in {w : World} {base e size n : Nat} {v : Value} {xs : List Value} (h : w.ownsRow base e size v n xs) : ∀ k, v.ownBlock = some k → k < w.heap.size := fun k hk => (h.lt k hk).2

theorem YardAt.put_free {w w' : World} {yb : Nat} {cs : Array Value} {y : Yd} (h : YardAt w yb cs y) (o : Nat) (ho : o < 11) {v' : Value} {l : List Nat} (hm : Moved w (at_ cs (1 + o)) w' v') (hl : OwnN w' v' l) :
    YardAt (w'.setCell ⟨yb, 1 + o, none⟩ v') yb (cs.setIfInBounds (1 + o) v') { y with free := upd y.free o l } ∧ Step w yb cs (w'.setCell ⟨yb, 1 + o, none⟩ v') (cs.setIfInBounds (1 + o) v') := by
  obtain ⟨p1, p2, p3, p4, p5, p6, p7, p8⟩ := h.put (1 + o) (by omega) (by omega) hm (own_in hl)
  refine ⟨⟨p1, p2, p3, h.le, fun q hq => ?_, ?_, ?_, p6, p7⟩, p8⟩
  · by_cases hqo : q = o
    · subst hqo
      rw [at_set_same _ _ _ (by rw [h.size]; omega)]
      show OwnN _ _ (upd y.free q l q)
      rw [upd_same]
      exact p5 _ _ _ _ hl
    · obtain ⟨e, k⟩ := p4 (1 + q) (by omega) (by omega) (by omega)
      rw [e]
      show OwnN _ _ (upd y.free o l q)
      rw [upd_other _ hqo]
      exact k _ _ _ _ (h.free q hq)
  · obtain ⟨e, k⟩ := p4 12 (by omega) (by omega) (by omega)
    rw [e]
    exact k _ _ _ _ h.taken
  · obtain ⟨e, k⟩ := p4 13 (by omega) (by omega) (by omega)
    rw [e]
    exact k _ _ _ _ h.failed

theorem YardAt.put_taken {w w' : World} {yb : Nat} {cs : Array Value} {y : Yd} (h : YardAt w yb cs y) {v' : Value} {l : List Blk} (hm : Moved w (at_ cs 12) w' v') (hl : OwnB w' v' l) :
    YardAt (w'.setCell ⟨yb, 12, none⟩ v') yb (cs.setIfInBounds 12 v') { y with taken := l } ∧ Step w yb cs (w'.setCell ⟨yb, 12, none⟩ v') (cs.setIfInBounds 12 v') := by
  obtain ⟨p1, p2, p3, p4, p5, p6, p7, p8⟩ := h.put 12 (by omega) (by omega) hm (own_in hl)
  refine ⟨⟨p1, p2, p3, h.le, fun q hq => ?_, ?_, ?_, p6, p7⟩, p8⟩
  · obtain ⟨e, k⟩ := p4 (1 + q) (by omega) (by omega) (by omega)
    rw [e]
    exact k _ _ _ _ (h.free q hq)
  · rw [at_set_same _ _ _ (by rw [h.size]; omega)]
    exact p5 _ _ _ _ hl
  · obtain ⟨e, k⟩ := p4 13 (by omega) (by omega) (by omega)
    rw [e]
    exact k _ _ _ _ h.failed

theorem YardAt.put_failed {w w' : World} {yb : Nat} {cs : Array Value} {y : Yd} (h : YardAt w yb cs y) {v' : Value} {l : List Nat} (hm : Moved w (at_ cs 13) w' v') (hl : OwnN w' v' l) :
    YardAt (w'.setCell ⟨yb, 13, none⟩ v') yb (cs.setIfInBounds 13 v') { y with failed := l } ∧ Step w yb cs (w'.setCell ⟨yb, 13, none⟩ v') (cs.setIfInBounds 13 v') := by
  obtain ⟨p1, p2, p3, p4, p5, p6, p7, p8⟩ := h.put 13 (by omega) (by omega) hm (own_in hl)
  refine ⟨⟨p1, p2, p3, h.le, fun q hq => ?_, ?_, ?_, p6, p7⟩, p8⟩
  · obtain ⟨e, k⟩ := p4 (1 + q) (by omega) (by omega) (by omega)
    rw [e]
    exact k _ _ _ _ (h.free q hq)
  · obtain ⟨e, k⟩ := p4 12 (by omega) (by omega) (by omega)
    rw [e]
    exact k _ _ _ _ h.taken
  · rw [at_set_same _ _ _ (by rw [h.size]; omega)]
    exact p5 _ _ _ _ hl

theorem YardAt.drewN {w : World} {yb : Nat} {cs : Array Value} {y : Yd} (h : YardAt w yb cs y) (q : Nat) : YardAt (w.drewN q) yb cs y := h.below (below_drewN' w q)
theorem Step.drewN {w w1 : World} {yb : Nat} {cs cs1 : Array Value} (h : Step w yb cs w1 cs1) (q : Nat) : Step w yb cs (w1.drewN q) cs1 := h.below (below_drewN' w1 q)
theorem YardAt.alloc {w : World} {yb : Nat} {cs : Array Value} {y : Yd} (h : YardAt w yb cs y) (o : Obj) : YardAt (w.alloc o) yb cs y := h.below (below_alloc' w o)
theorem Step.alloc {w w1 : World} {yb : Nat} {cs cs1 : Array Value} (h : Step w yb cs w1 cs1) (o : Obj) : Step w yb cs (w1.alloc o) cs1 := h.below (below_alloc' w1 o)
theorem YardAt.setOther {w : World} {yb : Nat} {cs : Array Value} {y : Yd} (h : YardAt w yb cs y) (a : Addr) (v : Value) (ha : ¬ foot yb cs a.block) : YardAt (w.setCell a v) yb cs y :=
  h.keep (F := fun k => k = a.block) (Keeps.setCell (Keeps.refl _ _) a v (.inl rfl)) fun k hk e => ha (e ▸ hk)
theorem Step.setNew {w w1 : World} {yb : Nat} {cs cs1 : Array Value} (h : Step w yb cs w1 cs1) (a : Addr) (v : Value) (ha : w.heap.size ≤ a.block) : Step w yb cs (w1.setCell a v) cs1 :=
  ⟨h.keeps.setCell a v (.inr ha), h.fresh⟩
theorem Step.notFoot {w w1 : World} {yb : Nat} {cs cs1 : Array Value} (h : Step w yb cs w1 cs1) {B : Nat} (hB : B < w.heap.size) (hn : ¬ foot yb cs B) : ¬ foot yb cs1 B := fun hf => (h.fresh B hf).elim hn (by omega)
theorem cell_alloc {w : World} {a : Addr} {v : Value} (h : w.cell? a = some v) (o : Obj) : (w.alloc o).cell? a = some v := ((below_alloc' w o).cell (World.block_lt_of_cell? w a h)).trans h
theorem two_cells {w : World} {B : Nat} {a b : Value} {t : TypeId} {fr : Nat × Nat} (h : w.heap[B]? = some (.cells #[a, b] t fr)) : w.cell? ⟨B, 0, none⟩ = some a ∧ w.cell? ⟨B, 1, none⟩ = some b := by
  constructor <;> simp [World.cell?, h]
theorem two_frozen {w : World} {B : Nat} {c : Array Value} {t : TypeId} (h : w.heap[B]? = some (.cells c t (0, 0))) (k : Nat) : w.frozen? ⟨B, k, none⟩ = false := by
  simp [World.frozen?, h]
theorem two_set {w : World} {B : Nat} {a b c d : Value} {t : TypeId} (h : w.heap[B]? = some (.cells #[a, b] t (0, 0))) : ((w.setCell ⟨B, 0, none⟩ c).setCell ⟨B, 1, none⟩ d).heap[B]? = some (.cells #[c, d] t (0, 0)) := by
  simp [World.setCell, Array.getElem?_modify, h]
/-- A row was moved; another block is as it was. -/
theorem Moved.heap {w w' : World} {v v' : Value} (h : Moved w v w' v') {B : Nat} {o : Obj} (hB : w.heap[B]? = some o) (hn : v.ownBlock ≠ some B) : w'.heap[B]? = some o :=
  (h.grown.block B (Array.getElem?_eq_some_iff.1 hB).1 fun e => hn e.symm).trans hB
theorem YardAt.not_slot {w : World} {yb : Nat} {cs : Array Value} {y : Yd} (h : YardAt w yb cs y) {B : Nat} (hn : ¬ foot yb cs B) (i : Nat) (h1 : 1 ≤ i) (h2 : i < 14) : (at_ cs i).ownBlock ≠ some B := fun e => hn (.inr ⟨i, h1, h2, e⟩)

end Go.Proofs.Ythmgnfkjkdmdoaa
