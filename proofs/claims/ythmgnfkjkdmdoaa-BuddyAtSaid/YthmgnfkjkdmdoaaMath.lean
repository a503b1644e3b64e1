/- The plain mathematics of a buddy yard: sorted lists with insertion and deletion by key; aligned blocks; the free blocks of a set of workers. No program is in sight. -/
namespace Go.Proofs.Ythmgnfkjkdmdoaa.Bud

/-! ### 1. Lists that are sorted by a key -/
section
variable {α : Type} (k : α → Nat)

def posK (x : Nat) (l : List α) : Nat := l.countP fun a => decide (k a < x)
def insK (a : α) (l : List α) : List α := l.take (posK k (k a) l) ++ a :: l.drop (posK k (k a) l)
def delK (x : Nat) (l : List α) : List α := l.eraseIdx (posK k x l)
def SortK (l : List α) : Prop := l.Pairwise fun a b => k a ≤ k b
def IncK (l : List α) : Prop := l.Pairwise fun a b => k a < k b

theorem IncK.sort {l : List α} (h : IncK k l) : SortK k l := h.imp fun h => Nat.le_of_lt h

theorem posK_le (x : Nat) (l : List α) : posK k x l ≤ l.length := List.countP_le_length

theorem posK_split (x : Nat) (l : List α) (h : SortK k l) : (∀ a ∈ l.take (posK k x l), k a < x) ∧ (∀ a ∈ l.drop (posK k x l), x ≤ k a) := by
  induction l with
  | nil => simp [posK]
  | cons a l ih =>
    obtain ⟨h1, h2⟩ := List.pairwise_cons.1 h
    obtain ⟨i1, i2⟩ := ih h2
    by_cases hx : k a < x
    · have e : posK k x (a :: l) = posK k x l + 1 := by simp [posK, hx]
      rw [e]
      refine ⟨fun b hb => ?_, fun b hb => ?_⟩
      · simp only [List.take_succ_cons, List.mem_cons] at hb
        rcases hb with rfl | hb
        · exact hx
        · exact i1 b hb
      · simp only [List.drop_succ_cons] at hb
        exact i2 b hb
    · have e : posK k x (a :: l) = 0 := by
        have : ∀ b ∈ l, ¬ k b < x := fun b hb => by have := h1 b hb; omega
        simp only [posK, List.countP_eq_zero, decide_eq_true_eq]
        intro b hb
        rcases List.mem_cons.1 hb with rfl | hb
        · exact hx
        · exact this b hb
      rw [e]
      refine ⟨by simp, fun b hb => ?_⟩
      simp only [List.drop_zero] at hb
      rcases List.mem_cons.1 hb with rfl | hb
      · omega
      · have := h1 b hb; omega

theorem mem_insK {a : α} {l : List α} {y : α} : y ∈ insK k a l ↔ y = a ∨ y ∈ l := by
  have e : y ∈ l ↔ y ∈ l.take (posK k (k a) l) ∨ y ∈ l.drop (posK k (k a) l) := by
    rw [← List.mem_append, List.take_append_drop]
  rw [insK, List.mem_append, List.mem_cons, e]
  constructor
  · rintro (h | h | h)
    · exact .inr (.inl h)
    · exact .inl h
    · exact .inr (.inr h)
  · rintro (h | h | h)
    · exact .inr (.inl h)
    · exact .inl h
    · exact .inr (.inr h)

theorem length_insK (a : α) (l : List α) : (insK k a l).length = l.length + 1 := by
  have := posK_le k (k a) l
  simp [insK]; omega

theorem take_drop_pw {R : α → α → Prop} {l : List α} (h : l.Pairwise R) (n : Nat) : (l.take n).Pairwise R ∧ (l.drop n).Pairwise R :=
  ⟨h.sublist (List.take_sublist n l), h.sublist (List.drop_sublist n l)⟩

theorem sort_insK {a : α} {l : List α} (h : SortK k l) : SortK k (insK k a l) := by
  obtain ⟨h1, h2⟩ := posK_split k (k a) l h
  obtain ⟨g1, g2⟩ := take_drop_pw h (posK k (k a) l)
  refine List.pairwise_append.2 ⟨g1, List.pairwise_cons.2 ⟨fun b hb => h2 b hb, g2⟩, fun x hx y hy => ?_⟩
  have := h1 x hx
  rcases List.mem_cons.1 hy with rfl | hy
  · omega
  · have := h2 y hy; omega

theorem inc_insK {a : α} {l : List α} (h : IncK k l) (hn : ∀ b ∈ l, k b ≠ k a) : IncK k (insK k a l) := by
  obtain ⟨h1, h2⟩ := posK_split k (k a) l (IncK.sort k h)
  obtain ⟨g1, g2⟩ := take_drop_pw h (posK k (k a) l)
  refine List.pairwise_append.2 ⟨g1, List.pairwise_cons.2 ⟨fun b hb => ?_, g2⟩, fun x hx y hy => ?_⟩
  · have := h2 b hb
    have := hn b (List.mem_of_mem_drop hb)
    omega
  · have := h1 x hx
    rcases List.mem_cons.1 hy with rfl | hy
    · omega
    · have := h2 y hy; omega

theorem delK_sublist (x : Nat) (l : List α) : (delK k x l).Sublist l := List.eraseIdx_sublist ..

theorem inc_delK {x : Nat} {l : List α} (h : IncK k l) : IncK k (delK k x l) := h.sublist (delK_sublist k x l)
theorem sort_delK {x : Nat} {l : List α} (h : SortK k l) : SortK k (delK k x l) := h.sublist (delK_sublist k x l)

/-- Where the key is there, it is what stands at its position. -/
theorem at_posK {x : Nat} {l : List α} (h : SortK k l) {a : α} (ha : a ∈ l) (hx : k a = x) : ∃ b r, l.drop (posK k x l) = b :: r ∧ k b = x := by
  obtain ⟨h1, h2⟩ := posK_split k x l h
  obtain ⟨_, g2⟩ := take_drop_pw h (posK k x l)
  have hm : a ∈ l.drop (posK k x l) := by
    have : a ∈ l.take (posK k x l) ++ l.drop (posK k x l) := by rw [List.take_append_drop]; exact ha
    rcases List.mem_append.1 this with hh | hh
    · have := h1 a hh; omega
    · exact hh
  cases hd : l.drop (posK k x l) with
  | nil => rw [hd] at hm; cases hm
  | cons b r =>
    refine ⟨b, r, rfl, ?_⟩
    rw [hd] at hm g2 h2
    have hb := h2 b (by simp)
    rcases List.mem_cons.1 hm with rfl | hm
    · exact hx
    · have := (List.pairwise_cons.1 g2).1 a hm
      omega

theorem delK_eq {x : Nat} {l : List α} : delK k x l = l.take (posK k x l) ++ l.drop (posK k x l + 1) := List.eraseIdx_eq_take_drop_succ ..

theorem mem_delK {x : Nat} {l : List α} (h : IncK k l) {a : α} (ha : a ∈ l) (hx : k a = x) {y : α} : y ∈ delK k x l ↔ y ∈ l ∧ k y ≠ x := by
  obtain ⟨b, r, hd, hb⟩ := at_posK k (IncK.sort k h) ha hx
  obtain ⟨h1, h2⟩ := posK_split k x l (IncK.sort k h)
  obtain ⟨_, g2⟩ := take_drop_pw h (posK k x l)
  have hr : l.drop (posK k x l + 1) = r := by
    have : (l.drop (posK k x l)).drop 1 = r := by rw [hd]; rfl
    rwa [List.drop_drop] at this
  rw [delK_eq, hr, List.mem_append]
  have e : y ∈ l ↔ y ∈ l.take (posK k x l) ∨ y = b ∨ y ∈ r := by
    rw [← List.mem_cons, ← hd, ← List.mem_append, List.take_append_drop]
  rw [e]
  rw [hd] at g2
  have g3 := (List.pairwise_cons.1 g2).1
  constructor
  · rintro (hy | hy)
    · have := h1 y hy; exact ⟨.inl hy, by omega⟩
    · have := g3 y hy; exact ⟨.inr (.inr hy), by omega⟩
  · rintro ⟨hy | rfl | hy, hne⟩
    · exact .inl hy
    · exact absurd hb hne
    · exact .inr hy

theorem length_delK {x : Nat} {l : List α} (h : SortK k l) {a : α} (ha : a ∈ l) (hx : k a = x) : (delK k x l).length + 1 = l.length := by
  obtain ⟨b, r, hd, _⟩ := at_posK k h ha hx
  have hlt : posK k x l < l.length := by
    rcases Nat.lt_or_ge (posK k x l) l.length with h' | h'
    · exact h'
    · rw [List.drop_eq_nil_of_le h'] at hd; cases hd
  rw [delK, List.length_eraseIdx_of_lt hlt]; omega

theorem delK_insK {a : α} {l : List α} (h : SortK k l) : delK k (k a) (insK k a l) = l := by
  obtain ⟨h1, h2⟩ := posK_split k (k a) l h
  have hp : posK k (k a) (insK k a l) = (l.take (posK k (k a) l)).length := by
    have e1 : (l.take (posK k (k a) l)).countP (fun b => decide (k b < k a)) = (l.take (posK k (k a) l)).length :=
      List.countP_eq_length.2 fun b hb => by simpa using h1 b hb
    have e2 : (l.drop (posK k (k a) l)).countP (fun b => decide (k b < k a)) = 0 :=
      List.countP_eq_zero.2 fun b hb => by have := h2 b hb; simp; omega
    show List.countP _ (l.take (posK k (k a) l) ++ a :: l.drop (posK k (k a) l)) = _
    rw [List.countP_append, List.countP_cons, e1, e2]; simp
  rw [delK, hp, insK, List.eraseIdx_append_of_length_le (Nat.le_refl _), Nat.sub_self, List.eraseIdx_cons_zero, List.take_append_drop]

/-- Two strictly sorted lists with the same members are one. -/
theorem inc_ext {l m : List α} (h : IncK k l) (g : IncK k m) (e : ∀ x, x ∈ l ↔ x ∈ m) : l = m := by
  induction l generalizing m with
  | nil =>
    cases m with
    | nil => rfl
    | cons b m => exact absurd ((e b).2 (by simp)) (by simp)
  | cons a l ih =>
    cases m with
    | nil => exact absurd ((e a).1 (by simp)) (by simp)
    | cons b m =>
      obtain ⟨h1, h2⟩ := List.pairwise_cons.1 h
      obtain ⟨g1, g2⟩ := List.pairwise_cons.1 g
      have hab : a = b := by
        rcases List.mem_cons.1 ((e a).1 (by simp)) with rfl | ha
        · rfl
        · rcases List.mem_cons.1 ((e b).2 (by simp)) with rfl | hb
          · rfl
          · have := g1 a ha; have := h1 b hb; omega
      subst hab
      rw [ih h2 g2 fun x => ?_]
      constructor
      · intro hx
        rcases List.mem_cons.1 ((e x).1 (List.mem_cons_of_mem _ hx)) with rfl | hm
        · have := h1 x hx; omega
        · exact hm
      · intro hx
        rcases List.mem_cons.1 ((e x).2 (List.mem_cons_of_mem _ hx)) with rfl | hm
        · have := g1 x hx; omega
        · exact hm
end

/-! ### 2. Blocks: index i at order o is the workers w with w / 2^o = i -/
def Full (U : Nat → Prop) (i o : Nat) : Prop := ∀ w, w / 2 ^ o = i → U w

theorem Full.mono {U V : Nat → Prop} (h : ∀ w, U w → V w) {i o : Nat} (f : Full U i o) : Full V i o := fun w hw => h w (f w hw)

theorem pow_pos' (o : Nat) : 0 < 2 ^ o := Nat.two_pow_pos o

theorem at_div (i o : Nat) : i * 2 ^ o / 2 ^ o = i := Nat.mul_div_cancel _ (pow_pos' o)

/-- A worker of a smaller block lies in the greater block that holds this one. -/
theorem div_up (w o d : Nat) : w / 2 ^ (o + d) = w / 2 ^ o / 2 ^ d := by rw [Nat.pow_add, Nat.div_div_eq_div_mul]

theorem div_up' (w : Nat) {o o' : Nat} (h : o ≤ o') : w / 2 ^ o' = w / 2 ^ o / 2 ^ (o' - o) := by
  rw [← div_up, Nat.add_sub_cancel' h]

/-- Two blocks that have a worker in common: the smaller lies in the greater. -/
theorem Full.sub {U : Nat → Prop} {w o o' : Nat} (h : o ≤ o') (f : Full U (w / 2 ^ o') o') : Full U (w / 2 ^ o) o := by
  intro v hv
  refine f v ?_
  rw [div_up' v h, hv, ← div_up' w h]

def minus (U : Nat → Prop) (i o : Nat) : Nat → Prop := fun w => U w ∧ w / 2 ^ o ≠ i
def plus (U : Nat → Prop) (i o : Nat) : Nat → Prop := fun w => U w ∨ w / 2 ^ o = i

/-- Is (i, o) one of the greatest blocks within U? -/
def Top (n : Nat) (U : Nat → Prop) (i o : Nat) : Prop := o ≤ n ∧ Full U i o ∧ (o = n ∨ ¬ Full U (i / 2) (o + 1))

theorem div_succ (w o : Nat) : w / 2 ^ (o + 1) = w / 2 ^ o / 2 := by rw [div_up w o 1]

/-- Two greatest blocks that meet are one. -/
theorem Top.eq {n : Nat} {U : Nat → Prop} {w o o' : Nat} (h : Top n U (w / 2 ^ o) o) (h' : Top n U (w / 2 ^ o') o') : o = o' := by
  rcases Nat.lt_trichotomy o o' with hlt | e | hlt
  · exfalso
    rcases h.2.2 with e | hn
    · have := h'.1; omega
    · rw [← div_succ] at hn
      exact hn (Full.sub (by omega) h'.2.1)
  · exact e
  · exfalso
    rcases h'.2.2 with e | hn
    · have := h.1; omega
    · rw [← div_succ] at hn
      exact hn (Full.sub (by omega) h.2.1)

theorem top_zero {n : Nat} {U : Nat → Prop} (hU : ∀ w, U w → w < 2 ^ n) {i : Nat} (h : Full U i n) : i = 0 := by
  have h1 := hU _ (h (i * 2 ^ n) (at_div i n))
  rcases Nat.eq_zero_or_pos i with h | h
  · exact h
  · have := Nat.le_mul_of_pos_left (2 ^ n) h; omega

theorem top_minus {n : Nat} {U : Nat → Prop} (hU : ∀ w, U w → w < 2 ^ n) {i o : Nat} (h : Top n U i o) (j q : Nat) : Top n (minus U i o) j q ↔ Top n U j q ∧ ¬ (j = i ∧ q = o) := by
  constructor
  · rintro ⟨h1, h2, h3⟩
    have hF : Full U j q := h2.mono fun w hw => hw.1
    have hne : ¬ (j = i ∧ q = o) := by
      rintro ⟨rfl, rfl⟩
      exact (h2 (j * 2 ^ q) (at_div j q)).2 (at_div j q)
    refine ⟨⟨h1, hF, ?_⟩, hne⟩
    rcases h3 with h3 | h3
    · exact .inl h3
    · refine .inr fun hf => h3 ?_
      intro w hw
      refine ⟨hf w hw, fun hwi => ?_⟩
      have hj := h2 (j * 2 ^ q) (at_div j q)
      rcases Nat.lt_or_ge o (q + 1) with hlt | hge
      · rcases h.2.2 with e | hn
        · have hq : q = n := by omega
          subst hq
          subst e
          have ei := top_zero hU h.2.1
          have ej := top_zero hU hF
          subst ei
          subst ej
          exact hj.2 (at_div 0 o)
        · have e : i / 2 = w / 2 ^ (o + 1) := by rw [div_succ, hwi]
          rw [e] at hn
          refine hn (Full.sub (o' := q + 1) (by omega) ?_)
          rw [hw]
          exact hf
      · refine hj.2 ?_
        rw [← hwi, div_up' (j * 2 ^ q) (show q + 1 ≤ o by omega), div_succ, at_div, ← hw, ← div_up' w (show q + 1 ≤ o by omega)]
  · rintro ⟨⟨h1, h2, h3⟩, hne⟩
    refine ⟨h1, fun w hw => ⟨h2 w hw, fun hwi => ?_⟩, ?_⟩
    · have e := Top.eq (n := n) (U := U) (w := w) (o := q) (o' := o) (by rw [hw]; exact ⟨h1, h2, h3⟩) (by rw [hwi]; exact h)
      subst e
      exact hne ⟨by rw [← hw, hwi], rfl⟩
    · rcases h3 with h3 | h3
      · exact .inl h3
      · exact .inr fun hf => h3 (hf.mono fun w hw => hw.1)

theorem top_plus {n : Nat} {U : Nat → Prop} {i o : Nat} (hd : ∀ w, w / 2 ^ o = i → ¬ U w) (hin : o ≤ n) (hmax : o = n ∨ ¬ Full (plus U i o) (i / 2) (o + 1)) (j q : Nat) :
    Top n (plus U i o) j q ↔ Top n U j q ∨ (j = i ∧ q = o) := by
  constructor
  · rintro ⟨h1, h2, h3⟩
    by_cases hm : ∃ w, w / 2 ^ q = j ∧ w / 2 ^ o = i
    · obtain ⟨w, hwj, hwi⟩ := hm
      rcases Nat.lt_trichotomy q o with hlt | e | hlt
      · exfalso
        rcases h3 with h3 | h3
        · omega
        · refine h3 fun v hv => .inr ?_
          rw [div_up' v (show q + 1 ≤ o by omega), hv, ← hwj, ← div_succ, ← div_up' w (show q + 1 ≤ o by omega), hwi]
      · subst e
        exact .inr ⟨by rw [← hwj, hwi], rfl⟩
      · exfalso
        rcases hmax with e | hmax
        · omega
        · refine hmax ?_
          rw [← hwi, ← div_succ]
          refine Full.sub (o' := q) (by omega) ?_
          rw [hwj, hwi]
          exact h2
    · have hn : ∀ w, w / 2 ^ q = j → ¬ w / 2 ^ o = i := fun w hw hwi => hm ⟨w, hw, hwi⟩
      refine .inl ⟨h1, fun w hw => (h2 w hw).resolve_right (hn w hw), ?_⟩
      rcases h3 with h3 | h3
      · exact .inl h3
      · exact .inr fun hf => h3 (hf.mono fun w hw => .inl hw)
  · rintro (⟨h1, h2, h3⟩ | ⟨rfl, rfl⟩)
    · refine ⟨h1, h2.mono fun w hw => .inl hw, ?_⟩
      by_cases hqn : q = n
      · exact .inl hqn
      · have h3 := h3.resolve_left hqn
        refine .inr fun hf => h3 fun v hv => ?_
        rcases hf v hv with hu | hvi
        · exact hu
        · exfalso
          rcases Nat.lt_or_ge o (q + 1) with hlt | hge
          · rcases hmax with e | hmax
            · omega
            · refine hmax ?_
              rw [← hvi, ← div_succ]
              refine Full.sub (o' := q + 1) (by omega) ?_
              rw [hv, hvi]
              exact hf
          · refine hd (j * 2 ^ q) ?_ (h2 _ (at_div j q))
            rw [← hvi, div_up' (j * 2 ^ q) (show q + 1 ≤ o by omega), div_succ, at_div, ← hv, ← div_up' v (show q + 1 ≤ o by omega)]
    · exact ⟨hin, fun w hw => .inr hw, hmax⟩

theorem top_exists {n : Nat} {U : Nat → Prop} (w : Nat) : ∀ d o, n - o = d → o ≤ n → Full U (w / 2 ^ o) o → ∃ q, o ≤ q ∧ Top n U (w / 2 ^ q) q := by
  intro d
  induction d with
  | zero => intro o hd ho hf; exact ⟨o, Nat.le_refl _, ho, hf, .inl (by omega)⟩
  | succ d ih =>
    intro o hd ho hf
    by_cases hp : Full U (w / 2 ^ (o + 1)) (o + 1)
    · obtain ⟨q, hq, ht⟩ := ih (o + 1) (by omega) (by omega) hp
      exact ⟨q, by omega, ht⟩
    · exact ⟨o, Nat.le_refl _, ho, hf, .inr (by rw [← div_succ]; exact hp)⟩

/-! ### 3. The lists of free blocks -/
/-- The lists hold, order for order, the begins of the greatest blocks within U, rising. -/
structure Canon (n : Nat) (U : Nat → Prop) (f : Nat → List Nat) : Prop where
  inc : ∀ o, IncK id (f o)
  mem : ∀ o s, s ∈ f o ↔ s % 2 ^ o = 0 ∧ Top n U (s / 2 ^ o) o

def upd (f : Nat → List Nat) (o : Nat) (l : List Nat) : Nat → List Nat := fun q => if q = o then l else f q
theorem upd_same (f : Nat → List Nat) (o : Nat) (l : List Nat) : upd f o l o = l := by simp [upd]
theorem upd_other (f : Nat → List Nat) {o q : Nat} (h : q ≠ o) (l : List Nat) : upd f o l q = f q := by simp [upd, h]

theorem Canon.unique {n : Nat} {U V : Nat → Prop} {f g : Nat → List Nat} (h : Canon n U f) (k : Canon n V g) (e : ∀ w, U w ↔ V w) : f = g := by
  obtain rfl : U = V := funext fun w => propext (e w)
  funext o
  refine inc_ext id (h.inc o) (k.inc o) fun s => ?_
  rw [h.mem, k.mem]

theorem Canon.congr {n : Nat} {U V : Nat → Prop} {f : Nat → List Nat} (h : Canon n U f) (e : ∀ w, U w ↔ V w) : Canon n V f := by
  obtain rfl : U = V := funext fun w => propext (e w)
  exact h

theorem aligned (s o : Nat) (h : s % 2 ^ o = 0) : s / 2 ^ o * 2 ^ o = s := by
  have := Nat.div_add_mod s (2 ^ o)
  rw [h, Nat.add_zero, Nat.mul_comm] at this
  exact this

theorem aligned_eq {s t o : Nat} (h : s % 2 ^ o = 0) (h' : t % 2 ^ o = 0) (e : s / 2 ^ o = t / 2 ^ o) : s = t := by
  rw [← aligned s o h, ← aligned t o h', e]

theorem canon_rem {n : Nat} {U : Nat → Prop} {f : Nat → List Nat} (hU : ∀ w, U w → w < 2 ^ n) (h : Canon n U f) {s o : Nat} (hs : s ∈ f o) :
    Canon n (minus U (s / 2 ^ o) o) (upd f o (delK id s (f o))) := by
  obtain ⟨ha, ht⟩ := (h.mem o s).1 hs
  refine ⟨fun q => ?_, fun q t => ?_⟩
  · by_cases hq : q = o
    · subst hq; rw [upd_same]; exact inc_delK id (h.inc q)
    · rw [upd_other f hq]; exact h.inc q
  · rw [top_minus hU ht]
    by_cases hq : q = o
    · subst hq
      rw [upd_same, mem_delK id (h.inc q) hs (show id s = s from rfl), h.mem]
      constructor
      · rintro ⟨⟨h1, h2⟩, h3⟩
        exact ⟨h1, h2, fun e => h3 (aligned_eq h1 ha e.1)⟩
      · rintro ⟨h1, h2, h3⟩
        exact ⟨⟨h1, h2⟩, fun e => h3 ⟨by rw [show t = s from e], rfl⟩⟩
    · rw [upd_other f hq, h.mem]
      constructor
      · rintro ⟨h1, h2⟩
        exact ⟨h1, h2, fun e => hq e.2⟩
      · rintro ⟨h1, h2, _⟩
        exact ⟨h1, h2⟩

theorem canon_add {n : Nat} {U : Nat → Prop} {f : Nat → List Nat} (h : Canon n U f) {s o : Nat} (ha : s % 2 ^ o = 0) (hd : ∀ w, w / 2 ^ o = s / 2 ^ o → ¬ U w) (hin : o ≤ n)
    (hmax : o = n ∨ ¬ Full (plus U (s / 2 ^ o) o) (s / 2 ^ o / 2) (o + 1)) : Canon n (plus U (s / 2 ^ o) o) (upd f o (insK id s (f o))) := by
  have hns : s ∉ f o := fun hm => hd s rfl (((h.mem o s).1 hm).2.2.1 s rfl)
  refine ⟨fun q => ?_, fun q t => ?_⟩
  · by_cases hq : q = o
    · subst hq; rw [upd_same]; exact inc_insK id (h.inc q) fun b hb e => hns (by rw [← show b = s from e]; exact hb)
    · rw [upd_other f hq]; exact h.inc q
  · rw [top_plus hd hin hmax]
    by_cases hq : q = o
    · subst hq
      rw [upd_same, mem_insK, h.mem]
      constructor
      · rintro (rfl | ⟨h1, h2⟩)
        · exact ⟨ha, .inr ⟨rfl, rfl⟩⟩
        · exact ⟨h1, .inl h2⟩
      · rintro ⟨h1, h2 | h2⟩
        · exact .inr ⟨h1, h2⟩
        · exact .inl (aligned_eq h1 ha h2.1)
    · rw [upd_other f hq, h.mem]
      constructor
      · rintro ⟨h1, h2⟩
        exact ⟨h1, .inl h2⟩
      · rintro ⟨h1, h2 | h2⟩
        · exact ⟨h1, h2⟩
        · exact absurd h2.2 hq

/-! ### 4. A block's neighbour -/
def sib (s o : Nat) : Nat := s ^^^ 2 ^ o

theorem xor_one (i : Nat) : i ^^^ 1 = if i % 2 = 0 then i + 1 else i - 1 := by
  have h1 : (i ^^^ 1) / 2 = i / 2 := by rw [Nat.xor_div_two]; simp
  have h2 : (i ^^^ 1) % 2 = (i + 1) % 2 := by
    have e : ((i ^^^ 1) % 2 ^ 1) = (i % 2 ^ 1) ^^^ (1 % 2 ^ 1) := Nat.xor_mod_two_pow
    simp only [Nat.pow_one] at e
    rw [e]
    rcases Nat.mod_two_eq_zero_or_one i with h | h <;> rw [h] <;> simp <;> omega
  have h3 := Nat.div_add_mod (i ^^^ 1) 2
  have h4 := Nat.div_add_mod i 2
  split <;> omega

theorem xor_one_iff (i a : Nat) : a = i ^^^ 1 ↔ a / 2 = i / 2 ∧ a ≠ i := by
  rw [xor_one]
  split <;> omega

theorem sib_eq {s o : Nat} (h : s % 2 ^ o = 0) : sib s o = (s / 2 ^ o ^^^ 1) * 2 ^ o := by
  have e : s = (s / 2 ^ o) <<< o := by rw [Nat.shiftLeft_eq, aligned s o h]
  have e1 : 2 ^ o = 1 <<< o := by rw [Nat.shiftLeft_eq, Nat.one_mul]
  rw [← Nat.shiftLeft_eq, Nat.shiftLeft_xor_distrib, ← e, ← e1, sib]

theorem sib_div {s o : Nat} (h : s % 2 ^ o = 0) : sib s o / 2 ^ o = s / 2 ^ o ^^^ 1 := by rw [sib_eq h, at_div]
theorem sib_mod {s o : Nat} (h : s % 2 ^ o = 0) : sib s o % 2 ^ o = 0 := by rw [sib_eq h, Nat.mul_mod_left]
theorem sib_up {s o : Nat} (h : s % 2 ^ o = 0) : sib s o / 2 ^ o / 2 = s / 2 ^ o / 2 := by
  rw [sib_div h, Nat.xor_div_two]; simp

/-- The lesser of a block's begin and its neighbour's is the begin of the block that both make. -/
theorem sib_min {s o : Nat} (h : s % 2 ^ o = 0) : min s (sib s o) = s / 2 ^ o / 2 * 2 ^ (o + 1) := by
  have e := aligned s o h
  have hp := pow_pos' o
  rw [sib_eq h, xor_one, Nat.pow_succ]
  generalize s / 2 ^ o = i at *
  generalize 2 ^ o = p at *
  subst e
  split
  · rename_i h0
    obtain ⟨m, rfl⟩ : ∃ m, i = 2 * m := ⟨i / 2, by omega⟩
    rw [Nat.add_mul, Nat.mul_div_cancel_left _ (by omega : 0 < 2), Nat.min_eq_left (by omega), Nat.mul_comm 2 m, Nat.mul_assoc, Nat.mul_comm 2 p]
  · rename_i h0
    obtain ⟨m, rfl⟩ : ∃ m, i = 2 * m + 1 := ⟨i / 2, by omega⟩
    rw [show (2 * m + 1) / 2 = m by omega, show 2 * m + 1 - 1 = 2 * m by omega, Nat.add_mul, Nat.min_eq_right (by omega), Nat.mul_comm 2 m, Nat.mul_assoc, Nat.mul_comm 2 p]

/-! ### 5. What the yard does with its lists of free blocks -/
/-- A free block more; joined, as long as its neighbour is free. -/
def layF (n : Nat) (f : Nat → List Nat) (s o : Nat) : Nat → List Nat :=
  if h : o < n ∧ sib s o ∈ f o then layF n (upd f o (delK id (sib s o) (f o))) (min s (sib s o)) (o + 1)
  else upd f o (insK id s (f o))
termination_by n - o
decreasing_by omega

theorem minus_minus {U : Nat → Prop} {s o : Nat} (h : s % 2 ^ o = 0) (w : Nat) : minus (minus U (s / 2 ^ o) o) (sib s o / 2 ^ o) o w ↔ minus U (s / 2 ^ o / 2) (o + 1) w := by
  unfold minus
  rw [sib_div h, div_succ, Ne, Ne, xor_one_iff]
  constructor
  · rintro ⟨⟨h1, h2⟩, h3⟩
    exact ⟨h1, fun e => h3 ⟨e, h2⟩⟩
  · rintro ⟨h1, h2⟩
    exact ⟨⟨h1, fun e => h2 (by rw [e])⟩, fun e => h2 e.1⟩

theorem lay_canon {n : Nat} {V : Nat → Prop} (hV : ∀ w, V w → w < 2 ^ n) : ∀ (d o s : Nat) (f : Nat → List Nat), n - o = d → o ≤ n → s % 2 ^ o = 0 → Full V (s / 2 ^ o) o →
    Canon n (minus V (s / 2 ^ o) o) f → Canon n V (layF n f s o) := by
  intro d
  induction d with
  | zero =>
    intro o s f hd ho ha hf hc
    rw [layF, dif_neg (by omega)]
    refine (canon_add hc ha (fun w hw hm => hm.2 hw) ho (.inl (by omega))).congr fun w => ?_
    constructor
    · rintro (h | h)
      · exact h.1
      · exact hf w h
    · intro h
      by_cases e : w / 2 ^ o = s / 2 ^ o
      · exact .inr e
      · exact .inl ⟨h, e⟩
  | succ d ih =>
    intro o s f hd ho ha hf hc
    have hU : ∀ w, minus V (s / 2 ^ o) o w → w < 2 ^ n := fun w hw => hV w hw.1
    rw [layF]
    split
    · rename_i h
      obtain ⟨hlt, hm⟩ := h
      have hr := (canon_rem hU hc hm).congr (minus_minus ha)
      have ht := ((hc.mem o _).1 hm).2
      have hsm := sib_min ha
      have e1 : min s (sib s o) / 2 ^ (o + 1) = s / 2 ^ o / 2 := by rw [hsm, at_div]
      refine ih (o + 1) _ _ (by omega) (by omega) (by rw [hsm, Nat.mul_mod_left]) ?_ (by rw [e1]; exact hr)
      rw [e1]
      intro w hw
      rw [div_succ] at hw
      by_cases e : w / 2 ^ o = s / 2 ^ o
      · exact hf w e
      · refine (ht.2.1 w ?_).1
        rw [sib_div ha, xor_one_iff]
        exact ⟨hw, e⟩
    · rename_i h
      refine (canon_add hc ha (fun w hw hm => hm.2 hw) ho ?_).congr fun w => ?_
      · refine .inr fun hp => h ⟨by omega, ?_⟩
        rw [hc.mem]
        have hpV : Full V (s / 2 ^ o / 2) (o + 1) := hp.mono fun w hw => hw.elim (fun h => h.1) (fun h => hf w h)
        refine ⟨sib_mod ha, ho, fun w hw => ⟨hpV w (by rw [div_succ, hw, sib_up ha]), fun e => ?_⟩, .inr fun hq => ?_⟩
        · rw [hw, sib_div ha] at e
          exact ((xor_one_iff _ _).1 e.symm).2 rfl
        · rw [sib_up ha] at hq
          exact (hq s (by rw [div_succ])).2 rfl
      · constructor
        · rintro (h | h)
          · exact h.1
          · exact hf w h
        · intro h
          by_cases e : w / 2 ^ o = s / 2 ^ o
          · exact .inr e
          · exact .inl ⟨h, e⟩

/-- A block that is to be free, of workers none of whom is. -/
theorem lay_plus {n : Nat} {U : Nat → Prop} {f : Nat → List Nat} (hU : ∀ w, U w → w < 2 ^ n) (hc : Canon n U f) {s o : Nat} (ho : o ≤ n) (ha : s % 2 ^ o = 0) (hin : s + 2 ^ o ≤ 2 ^ n)
    (hd : ∀ w, w / 2 ^ o = s / 2 ^ o → ¬ U w) : Canon n (plus U (s / 2 ^ o) o) (layF n f s o) := by
  have hlt : ∀ w, w / 2 ^ o = s / 2 ^ o → w < 2 ^ n := by
    intro w hw
    have e := aligned s o ha
    have h1 := Nat.div_add_mod w (2 ^ o)
    have h2 := Nat.mod_lt w (pow_pos' o)
    rw [hw, Nat.mul_comm, e] at h1
    omega
  refine lay_canon (fun w hw => hw.elim (hU w) (hlt w)) (n - o) o s f rfl ho ha (fun w hw => .inr hw) (hc.congr fun w => ?_)
  constructor
  · intro h
    exact ⟨.inl h, fun e => hd w e h⟩
  · rintro ⟨h | h, h'⟩
    · exact h
    · exact absurd h h'

/-- Out of a block that is free no more, its halves, but for that in which the part lies. -/
def halveF (f : Nat → List Nat) (s ps po : Nat) : Nat → (Nat → List Nat)
  | 0 => f
  | o + 1 => if s = ps ∧ o + 1 = po then f else
      if s + 2 ^ o ≤ ps then halveF (upd f o (insK id s (f o))) (s + 2 ^ o) ps po o
      else halveF (upd f o (insK id (s + 2 ^ o) (f o))) s ps po o

def splitF (f : Nat → List Nat) (s o ps po : Nat) : Nat → List Nat := halveF (upd f o (delK id s (f o))) s ps po o

theorem halve_canon {n : Nat} {V : Nat → Prop} {ps po : Nat} (hp : ps % 2 ^ po = 0) : ∀ (o s : Nat) (f : Nat → List Nat), o ≤ n → po ≤ o → s % 2 ^ o = 0 → ps / 2 ^ o = s / 2 ^ o → Full V (s / 2 ^ o) o →
    Canon n (minus V (s / 2 ^ o) o) f → Canon n (minus V (ps / 2 ^ po) po) (halveF f s ps po o) := by
  intro o
  induction o with
  | zero =>
    intro s f ho hpo ha he hf hc
    obtain rfl : po = 0 := by omega
    rw [he]
    exact hc
  | succ o ih =>
    intro s f ho hpo ha he hf hc
    rw [halveF]
    split
    · rename_i h
      obtain ⟨rfl, rfl⟩ := h
      exact hc
    · rename_i h
      have hpo' : po ≤ o := by
        rcases Nat.lt_or_ge o po with hlt | hge
        · obtain rfl : po = o + 1 := by omega
          exact absurd ⟨(aligned_eq hp ha he).symm, rfl⟩ h
        · exact hge
      have hpw := pow_pos' o
      obtain ⟨i, hi⟩ : ∃ i, s / 2 ^ (o + 1) = i := ⟨_, rfl⟩
      have es : s = (2 * i) * 2 ^ o := by rw [← aligned s (o + 1) ha, hi, Nat.pow_succ, Nat.mul_comm (2 ^ o) 2, ← Nat.mul_assoc, Nat.mul_comm i 2]
      have es2 : s + 2 ^ o = (2 * i + 1) * 2 ^ o := by rw [es, Nat.add_mul, Nat.one_mul]
      have d1 : s / 2 ^ o = 2 * i := by rw [es, at_div]
      have d2 : (s + 2 ^ o) / 2 ^ o = 2 * i + 1 := by rw [es2, at_div]
      have hps : ps / 2 ^ o = 2 * i ∨ ps / 2 ^ o = 2 * i + 1 := by
        rw [hi, div_succ] at he
        omega
      rw [hi] at hc hf
      split
      · rename_i hge
        have hps1 : ps / 2 ^ o = 2 * i + 1 := by
          rcases hps with e | e
          · exfalso
            have := Nat.div_add_mod ps (2 ^ o)
            have h2 := Nat.mod_lt ps hpw
            rw [e, Nat.mul_comm, ← es] at this
            omega
          · exact e
        refine ih (s + 2 ^ o) _ (by omega) hpo' (by rw [es2, Nat.mul_mod_left]) (by rw [hps1, d2]) ?_ ?_
        · rw [d2]
          intro w hw
          exact hf w (by rw [div_succ, hw]; omega)
        · have ha0 : s % 2 ^ o = 0 := by rw [es, Nat.mul_mod_left]
          refine (canon_add hc ha0 (fun w hw hm => hm.2 (by rw [div_succ, hw, d1]; omega)) (by omega) (.inr fun hq => ?_)).congr fun w => ?_
          · rw [d1, show 2 * i / 2 = i by omega] at hq
            rcases hq ((2 * i + 1) * 2 ^ o) (by rw [div_succ, at_div]; omega) with h | h
            · exact h.2 (by rw [div_succ, at_div]; omega)
            · rw [at_div] at h; omega
          · unfold plus minus
            rw [d1, d2, div_succ]
            constructor
            · rintro (⟨h1, h2⟩ | h1)
              · exact ⟨h1, fun e => h2 (by rw [e]; omega)⟩
              · exact ⟨hf w (by rw [div_succ, h1]; omega), by omega⟩
            · rintro ⟨h1, h2⟩
              by_cases e : w / 2 ^ o = 2 * i
              · exact .inr e
              · exact .inl ⟨h1, by omega⟩
      · rename_i hge
        have hps0 : ps / 2 ^ o = 2 * i := by
          rcases hps with e | e
          · exact e
          · exfalso
            have := Nat.div_add_mod ps (2 ^ o)
            rw [e, Nat.mul_comm, ← es2] at this
            omega
        refine ih s _ (by omega) hpo' (by rw [es, Nat.mul_mod_left]) (by rw [hps0, d1]) ?_ ?_
        · rw [d1]
          intro w hw
          exact hf w (by rw [div_succ, hw]; omega)
        · have ha0 : (s + 2 ^ o) % 2 ^ o = 0 := by rw [es2, Nat.mul_mod_left]
          refine (canon_add hc ha0 (fun w hw hm => hm.2 (by rw [div_succ, hw, d2]; omega)) (by omega) (.inr fun hq => ?_)).congr fun w => ?_
          · rw [d2, show (2 * i + 1) / 2 = i by omega] at hq
            rcases hq ((2 * i) * 2 ^ o) (by rw [div_succ, at_div]; omega) with h | h
            · exact h.2 (by rw [div_succ, at_div]; omega)
            · rw [at_div] at h; omega
          · unfold plus minus
            rw [d1, d2, div_succ]
            constructor
            · rintro (⟨h1, h2⟩ | h1)
              · exact ⟨h1, fun e => h2 (by rw [e]; omega)⟩
              · exact ⟨hf w (by rw [div_succ, h1]; omega), by omega⟩
            · rintro ⟨h1, h2⟩
              by_cases e : w / 2 ^ o = 2 * i + 1
              · exact .inr e
              · exact .inl ⟨h1, by omega⟩

theorem split_canon {n : Nat} {U : Nat → Prop} {f : Nat → List Nat} (hU : ∀ w, U w → w < 2 ^ n) (hc : Canon n U f) {s o ps po : Nat} (hs : s ∈ f o) (hp : ps % 2 ^ po = 0) (hpo : po ≤ o) (he : ps / 2 ^ o = s / 2 ^ o) :
    Canon n (minus U (ps / 2 ^ po) po) (splitF f s o ps po) := by
  obtain ⟨ha, h1, h2, _⟩ := (hc.mem o s).1 hs
  exact halve_canon hp o s _ h1 hpo ha he h2 (canon_rem hU hc hs)

/-- The free block in which another one lies. -/
def aroundF (n : Nat) (f : Nat → List Nat) (s o : Nat) : Option (Nat × Nat) :=
  if h : o ≤ n then if s / 2 ^ o * 2 ^ o ∈ f o then some (s / 2 ^ o * 2 ^ o, o) else aroundF n f s (o + 1) else none
termination_by n + 1 - o
decreasing_by omega

theorem around_some {n : Nat} {f : Nat → List Nat} {s : Nat} : ∀ (d o t q : Nat), n + 1 - o = d → aroundF n f s o = some (t, q) → o ≤ q ∧ q ≤ n ∧ t ∈ f q ∧ t = s / 2 ^ q * 2 ^ q := by
  intro d
  induction d with
  | zero => intro o t q hd h; rw [aroundF, dif_neg (by omega)] at h; cases h
  | succ d ih =>
    intro o t q hd h
    rw [aroundF, dif_pos (by omega)] at h
    split at h
    · rename_i hm
      injection h with h
      injection h with h1 h2
      subst h2
      subst h1
      exact ⟨Nat.le_refl _, by omega, hm, rfl⟩
    · obtain ⟨h1, h2⟩ := ih (o + 1) t q (by omega) h
      exact ⟨by omega, h2⟩

theorem around_none {n : Nat} {f : Nat → List Nat} {s : Nat} : ∀ (d o : Nat), n + 1 - o = d → aroundF n f s o = none → ∀ q, o ≤ q → q ≤ n → s / 2 ^ q * 2 ^ q ∉ f q := by
  intro d
  induction d with
  | zero => intro o hd _ q h1 h2; omega
  | succ d ih =>
    intro o hd h q h1 h2
    rw [aroundF, dif_pos (by omega)] at h
    split at h
    · cases h
    · rename_i hm
      rcases Nat.lt_or_eq_of_le h1 with hlt | rfl
      · exact ih (o + 1) (by omega) h q (by omega) h2
      · exact hm

theorem around_full {n : Nat} {U : Nat → Prop} {f : Nat → List Nat} (hc : Canon n U f) {s o t q : Nat} (h : aroundF n f s o = some (t, q)) : Full U (s / 2 ^ o) o := by
  obtain ⟨h1, h2, h3, rfl⟩ := around_some _ o t q rfl h
  have := ((hc.mem q _).1 h3).2.2.1
  rw [at_div] at this
  exact Full.sub h1 this

theorem around_not {n : Nat} {U : Nat → Prop} {f : Nat → List Nat} (hc : Canon n U f) {s o : Nat} (ho : o ≤ n) (h : aroundF n f s o = none) : ¬ Full U (s / 2 ^ o) o := by
  intro hf
  obtain ⟨q, h1, ht⟩ := top_exists s _ o rfl ho hf
  refine around_none _ o rfl h q h1 ht.1 ?_
  rw [hc.mem, at_div]
  exact ⟨Nat.mul_mod_left _ _, ht⟩

/-- Is one of some workers in a block? -/
def hasF (bad : List Nat) (s o : Nat) : Bool := bad.any fun w => decide (s ≤ w ∧ w < s + 2 ^ o)

/-- All workers of a block that have not failed are free. -/
def openF (n : Nat) (bad : List Nat) (f : Nat → List Nat) (s : Nat) : Nat → (Nat → List Nat)
  | 0 => if hasF bad s 0 then f else layF n f s 0
  | o + 1 => if hasF bad s (o + 1) then openF n bad (openF n bad f s o) (s + 2 ^ o) o else layF n f s (o + 1)

theorem in_block {s o : Nat} (ha : s % 2 ^ o = 0) (w : Nat) : w / 2 ^ o = s / 2 ^ o ↔ s ≤ w ∧ w < s + 2 ^ o := by
  have e := aligned s o ha
  have hp := pow_pos' o
  have h1 := Nat.div_add_mod w (2 ^ o)
  have h2 := Nat.mod_lt w hp
  constructor
  · intro h
    rw [h, Nat.mul_comm, e] at h1
    omega
  · rintro ⟨h3, h4⟩
    rw [Nat.div_eq_iff hp, e]
    omega

theorem open_canon {n : Nat} {bad : List Nat} : ∀ (o s : Nat) (U : Nat → Prop) (f : Nat → List Nat), (∀ w, U w → w < 2 ^ n) → Canon n U f → o ≤ n → s % 2 ^ o = 0 → s + 2 ^ o ≤ 2 ^ n → (∀ w, w / 2 ^ o = s / 2 ^ o → ¬ U w) →
    Canon n (fun w => U w ∨ (w / 2 ^ o = s / 2 ^ o ∧ w ∉ bad)) (openF n bad f s o) := by
  intro o
  induction o with
  | zero =>
    intro s U f hU hc ho ha hin hd
    rw [openF]
    split
    · rename_i h
      refine hc.congr fun w => ?_
      constructor
      · exact .inl
      · rintro (h' | ⟨h1, h2⟩)
        · exact h'
        · exfalso
          simp only [hasF, List.any_eq_true, decide_eq_true_eq] at h
          obtain ⟨v, hv, h3⟩ := h
          obtain rfl : v = w := by
            rw [in_block ha] at h1
            simp at h1 h3
            omega
          exact h2 hv
    · rename_i h
      refine (lay_plus hU hc ho ha hin hd).congr fun w => ?_
      unfold plus
      constructor
      · rintro (h' | h')
        · exact .inl h'
        · refine .inr ⟨h', fun hw => h ?_⟩
          simp only [hasF, List.any_eq_true, decide_eq_true_eq]
          exact ⟨w, hw, (in_block ha w).1 h'⟩
      · rintro (h' | h')
        · exact .inl h'
        · exact .inr h'.1
  | succ o ih =>
    intro s U f hU hc ho ha hin hd
    rw [openF]
    split
    · rename_i h
      have hpw := pow_pos' o
      have hp2 : 2 ^ (o + 1) = 2 * 2 ^ o := by rw [Nat.pow_succ, Nat.mul_comm]
      obtain ⟨i, hi⟩ : ∃ i, s / 2 ^ (o + 1) = i := ⟨_, rfl⟩
      have es : s = (2 * i) * 2 ^ o := by rw [← aligned s (o + 1) ha, hi, Nat.pow_succ, Nat.mul_comm (2 ^ o) 2, ← Nat.mul_assoc, Nat.mul_comm i 2]
      have es2 : s + 2 ^ o = (2 * i + 1) * 2 ^ o := by rw [es, Nat.add_mul, Nat.one_mul]
      have d1 : s / 2 ^ o = 2 * i := by rw [es, at_div]
      have d2 : (s + 2 ^ o) / 2 ^ o = 2 * i + 1 := by rw [es2, at_div]
      have hlt : ∀ w, w / 2 ^ (o + 1) = s / 2 ^ (o + 1) → w < 2 ^ n := by
        intro w hw
        have := ((in_block ha w).1 hw).2
        omega
      have h1 := ih s U f hU hc (by omega) (by rw [es, Nat.mul_mod_left]) (by omega) (fun w hw => hd w (by rw [div_succ, hw, d1, hi]; omega))
      have h2 := ih (s + 2 ^ o) _ _ (fun w hw => hw.elim (hU w) (fun h => hlt w (by rw [div_succ, h.1, d1, hi]; omega))) h1 (by omega) (by rw [es2, Nat.mul_mod_left]) (by omega)
        (fun w hw hh => hh.elim (hd w (by rw [div_succ, hw, d2, hi]; omega)) (fun h => by rw [d1] at h; rw [d2] at hw; omega))
      refine h2.congr fun w => ?_
      rw [d1, d2, hi, div_succ]
      constructor
      · rintro ((h | ⟨h, h'⟩) | ⟨h, h'⟩)
        · exact .inl h
        · exact .inr ⟨by omega, h'⟩
        · exact .inr ⟨by omega, h'⟩
      · rintro (h | ⟨h, h'⟩)
        · exact .inl (.inl h)
        · by_cases e : w / 2 ^ o = 2 * i
          · exact .inl (.inr ⟨e, h'⟩)
          · exact .inr ⟨by omega, h'⟩
    · rename_i h
      refine (lay_plus hU hc ho ha hin hd).congr fun w => ?_
      unfold plus
      constructor
      · rintro (h' | h')
        · exact .inl h'
        · refine .inr ⟨h', fun hw => h ?_⟩
          simp only [hasF, List.any_eq_true, decide_eq_true_eq]
          exact ⟨w, hw, (in_block ha w).1 h'⟩
      · rintro (h' | h')
        · exact .inl h'
        · exact .inr h'.1

end Go.Proofs.Ythmgnfkjkdmdoaa.Bud
