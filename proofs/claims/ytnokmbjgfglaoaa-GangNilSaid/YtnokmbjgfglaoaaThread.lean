/- A region that draws its order, walked in one chosen order: whatever reads is taken when it may come, whatever writes comes one at a time; of the last store nothing need be kept. For any program. -/
import Derived.OrdersHeld
import Derived.WalkKit
namespace Go.Proofs.Ytnokmbjgfglaoaa.Thr
open Go

section
variable {P : Program} {ops : Array Oper} {Q : Exit → Act → World → Prop} {S : World → Prop} {m : Nat}

/-- Whatever is listed, all that it waits for is listed. -/
def Closed (ops : Array Oper) (listed : Array Bool) : Prop :=
  ∀ k o, ops[k]? = some o → listed.getD k false = true → ∀ e ∈ o.after, Region.binds .any e = true → listed.getD e.on false = true

theorem closed_start (ops : Array Oper) : Closed ops (Array.replicate ops.size false) := by
  intro k o ho hk
  exfalso
  have hlt : k < ops.size := (Array.getElem?_eq_some_iff.1 ho).1
  simp [hlt] at hk

theorem closed_step {listed : Array Bool} {j : Nat} (hc : Closed ops listed) (hj : j ∈ Region.ready .any ops listed) : Closed ops (listed.setIfInBounds j true) := by
  intro k o ho hk e he hb
  obtain ⟨_, oj, hoj, hall⟩ := mem_ready.1 hj
  by_cases hkj : j = k
  · subst hkj
    rw [ho] at hoj
    injection hoj with hoj
    subst hoj
    exact getD_set_true (hall e he hb)
  · rw [getD_set_ne false hkj] at hk
    exact getD_set_true (hc k o ho hk e he hb)

/-- Each operation but m has one behind it that waits for it. -/
def sinkB (ops : Array Oper) (m : Nat) : Bool :=
  decide (ops.size ≤ m) || ((List.range ops.size).all fun k => k == m || (List.range ops.size).any fun j => decide (k < j) && match ops[j]? with
    | some o => o.after.toList.any fun e => Region.binds .any e && e.on == k
    | none => false)

theorem sink_all (h : sinkB ops m = true) {listed : Array Bool} (hc : Closed ops listed) (hm : m ∈ Region.ready .any ops listed) : ∀ k, k < ops.size → k ≠ m → listed.getD k false = true := by
  obtain ⟨_, om, hom, hall⟩ := mem_ready.1 hm
  have hlt : m < ops.size := (Array.getElem?_eq_some_iff.1 hom).1
  simp only [sinkB, Bool.or_eq_true, decide_eq_true_eq, List.all_eq_true, List.mem_range, beq_iff_eq, List.any_eq_true, Bool.and_eq_true] at h
  have h := h.resolve_left (by omega)
  have key : ∀ d k, ops.size - k = d → k < ops.size → k ≠ m → listed.getD k false = true := by
    intro d
    induction d using Nat.strongRecOn with
    | ind d ih =>
      intro k hd hk hne
      rcases h k hk with h' | ⟨j, hj, hkj, hw⟩
      · exact absurd h' hne
      · cases ho : ops[j]? with
        | none => rw [ho] at hw; cases hw
        | some o =>
          rw [ho] at hw
          simp only [List.any_eq_true, Bool.and_eq_true, beq_iff_eq] at hw
          obtain ⟨e, he', hb, hon⟩ := hw
          have he : e ∈ o.after := Array.mem_toList_iff.1 he'
          by_cases hjm : j = m
          · subst hjm
            rw [ho] at hom
            injection hom with hom
            subst hom
            rw [← hon]
            exact hall e he hb
          · have := ih (ops.size - j) (by omega) j rfl hj hjm
            rw [← hon]
            exact hc j o ho this e he hb
  exact fun k => key _ k rfl

/-- Whatever order is picked from here on; S holds behind every operation that is carried out, but for m. -/
def wpAnyE (P : Program) (ops : Array Oper) (Q : Exit → Act → World → Prop) (S : World → Prop) (m : Nat) : Nat → Array Bool → Act → World → Prop
  | 0, listed, a, w => Region.ready .any ops listed = [] ∧ Q .normal a w
  | fuel + 1, listed, a, w =>
    (Region.ready .any ops listed = [] → Q .normal a w) ∧
    ∀ i ∈ Region.ready .any ops listed, wpOp P ops Q i (fun a' w' => (i ≠ m → S w') ∧ wpAnyE P ops Q S m fuel (listed.setIfInBounds i true) a' w') a w

theorem wpAny_of_E : ∀ (fuel : Nat) (listed : Array Bool) (a : Act) (w : World), wpAnyE P ops Q S m fuel listed a w → wpAny P .any ops Q fuel listed a w
  | 0, _, _, _, h => h
  | fuel + 1, _, _, _, h => ⟨h.1, fun i hi => wpOp_mono (fun a' w' h' => wpAny_of_E fuel _ a' w' h'.2) (h.2 i hi)⟩

theorem wpAnyE_first (hk : sinkB ops m = true) {i : Nat} {oi : Oper} {v : Value} (hi : ops[i]? = some oi) (hsel : ∀ (j : Nat) (o : Oper) cs b, ops[j]? = some o → o.op ≠ .select cs b)
    (hQ : ∀ c a w d v, Q (.panic c) (a.put d v) w → Q (.panic c) a w) :
    ∀ (fuel : Nat) (listed : Array Bool) (a : Act) (w : World), Closed ops listed →
      (∀ j oj, ops[j]? = some oj → j ≠ i → listed.getD j true = false → (∀ e ∈ oj.after, Region.binds .any e = true → e.on ≠ i) → oi.apart ops oj = true) →
      i ∈ Region.ready .any ops listed → YieldsIf P ops S oi v a → S w →
      wpAnyE P ops Q S m fuel (listed.setIfInBounds i true) (a.put oi.dst v) w → wpAnyE P ops Q S m (fuel + 1) listed a w := by
  intro fuel
  induction fuel with
  | zero =>
    intro listed a w hcl _ hr hy hS H
    refine ⟨fun h => (by rw [h] at hr; cases hr), fun j hj => ?_⟩
    by_cases hji : j = i
    · subst hji; exact hy.wpOp hi hS ⟨fun _ => hS, H⟩
    · have := ready_mono hj hji
      rw [H.1] at this
      cases this
  | succ fuel ih =>
    intro listed a w hcl hfree hr hy hS H
    refine ⟨fun h => (by rw [h] at hr; cases hr), fun j hj => ?_⟩
    by_cases hji : j = i
    · subst hji; exact hy.wpOp hi hS ⟨fun _ => hS, H⟩
    · have h1 := H.2 j (ready_mono hj hji)
      obtain ⟨hjun, oj, hoj, hall⟩ := mem_ready.1 hj
      have hun := (mem_ready.1 hr).1
      have hjm : j ≠ m := by
        intro e
        subst e
        have hlt : i < ops.size := (Array.getElem?_eq_some_iff.1 hi).1
        have h2 := sink_all hk hcl hj i hlt (Ne.symm hji)
        rcases Nat.lt_or_ge i listed.size with h' | h'
        · simp [h'] at hun h2; rw [hun] at h2; cases h2
        · simp [Array.getElem?_eq_none h'] at h2
      have hnot : ∀ e ∈ oj.after, Region.binds .any e = true → e.on ≠ i := fun e he hb heq => by
        have h1 := hall e he hb
        rw [heq] at h1
        rcases Nat.lt_or_ge i listed.size with h' | h'
        · simp [h'] at hun h1; rw [hun] at h1; cases h1
        · simp [Array.getElem?_eq_none h'] at h1
      have h2 := wpOp_putIf hoj (hfree j oj hoj hji hjun hnot) (fun cs b => hsel i oi cs b hi) (fun cs b => hsel j oj cs b hoj) (fun c a w => hQ c a w _ _) hy h1
      have hfree' : ∀ k ok, ops[k]? = some ok → k ≠ i → (listed.setIfInBounds j true).getD k true = false →
          (∀ e ∈ ok.after, Region.binds .any e = true → e.on ≠ i) → oi.apart ops ok = true := fun k ok hk hki hun hno => by
        refine hfree k ok hk hki ?_ hno
        by_cases hjk : j = k
        · subst hjk; exact hjun
        · rw [getD_set_ne true hjk] at hun; exact hun
      refine wpOp_mono (fun a' w' h3 => ⟨h3.2.1, ih (listed.setIfInBounds j true) a' w' (closed_step hcl hj) hfree' (ready_mono hr (Ne.symm hji)) h3.1 (h3.2.1 hjm) ?_⟩) h2
      rw [Array.setIfInBounds_comm _ _ hji]
      exact h3.2.2

/-- The walk in the chosen order: (i, false): number i reads; (i, true): number i is carried out, alone. -/
def wpT (P : Program) (ops : Array Oper) (Q : Exit → Act → World → Prop) (S : World → Prop) (m : Nat) : List (Nat × Bool) → Act → World → Prop
  | [], a, w => Q .normal a w
  | (i, false) :: rest, a, w => ∃ o v, ops[i]? = some o ∧ YieldsIf P ops S o v a ∧ wpT P ops Q S m rest (a.put o.dst v) w
  | (i, true) :: rest, a, w => wpOp P ops Q i (fun a' w' => (i ≠ m → S w') ∧ wpT P ops Q S m rest a' w') a w

def threadB (ops : Array Oper) : List (Nat × Bool) → Array Bool → Bool
  | [], listed => (Region.ready .any ops listed).isEmpty
  | (i, false) :: rest, listed => (Region.ready .any ops listed).contains i && Region.free .any ops listed i && threadB ops rest (listed.setIfInBounds i true)
  | (i, true) :: rest, listed => (Region.ready .any ops listed == [i]) && threadB ops rest (listed.setIfInBounds i true)

theorem wpAnyE_thread (hk : sinkB ops m = true) (hs : Region.noSelect ops = true) (hQ : ∀ c a w d v, Q (.panic c) (a.put d v) w → Q (.panic c) a w) :
    ∀ (l : List (Nat × Bool)) (listed : Array Bool) (a : Act) (w : World), Closed ops listed → (l ≠ [] → (∀ i r, l ≠ (i, true) :: r) → S w) →
      threadB ops l listed = true → (∀ pre i r, l = pre ++ (i, true) :: r → i = m → r = []) → wpT P ops Q S m l a w → wpAnyE P ops Q S m l.length listed a w
  | [], listed, a, w, _, _, hB, _, h => ⟨by simpa [threadB] using hB, h⟩
  | (i, false) :: rest, listed, a, w, hc, hS, hB, hm, h => by
    simp only [threadB, Bool.and_eq_true] at hB
    obtain ⟨⟨hr, hf⟩, hB'⟩ := hB
    obtain ⟨o, v, ho, hy, hrest⟩ := h
    have hr' : i ∈ Region.ready .any ops listed := by simpa using hr
    have hSw : S w := hS (by simp) (fun j r e => by injection e with e1 _; injection e1 with _ e2; cases e2)
    refine wpAnyE_first hk ho (Region.noSelect_spec hs) hQ rest.length listed a w hc (Region.free_spec ho hf) hr' hy hSw ?_
    exact wpAnyE_thread hk hs hQ rest _ _ _ (closed_step hc hr') (fun _ _ => hSw) hB' (fun pre j r e => hm ((i, false) :: pre) j r (by rw [e]; rfl)) hrest
  | (i, true) :: rest, listed, a, w, hc, _, hB, hm, h => by
    simp only [threadB, Bool.and_eq_true, beq_iff_eq] at hB
    obtain ⟨hr, hB'⟩ := hB
    have hr' : i ∈ Region.ready .any ops listed := by rw [hr]; simp
    refine ⟨fun h0 => (by rw [h0] at hr; cases hr), fun j hj => ?_⟩
    rw [hr] at hj
    obtain rfl : j = i := by simpa using hj
    refine wpOp_mono (fun a' w' h' => ⟨h'.1, ?_⟩) h
    refine wpAnyE_thread hk hs hQ rest _ _ _ (closed_step hc hr') (fun hne _ => ?_) hB' (fun pre k r e => hm ((j, true) :: pre) k r (by rw [e]; rfl)) h'.2
    by_cases hjm : j = m
    · exact absurd (hm [] j rest rfl hjm) hne
    · exact h'.1 hjm

/-- m is carried out last, if at all. -/
def lastB (m : Nat) : List (Nat × Bool) → Bool
  | [] => true
  | (i, true) :: rest => (i != m || rest.isEmpty) && lastB m rest
  | (_, false) :: rest => lastB m rest

theorem lastB_spec : ∀ {l : List (Nat × Bool)}, lastB m l = true → ∀ pre i r, l = pre ++ (i, true) :: r → i = m → r = []
  | [], _, pre, i, r, e, _ => by cases pre <;> cases e
  | (j, true) :: rest, h, pre, i, r, e, hi => by
    simp only [lastB, Bool.and_eq_true, Bool.or_eq_true, bne_iff_ne, ne_eq, List.isEmpty_iff] at h
    cases pre with
    | nil =>
      injection e with e1 e2
      injection e1 with e3 _
      subst e3
      subst e2
      exact h.1.resolve_left (fun hn => hn hi)
    | cons p pre =>
      injection e with _ e2
      exact lastB_spec h.2 pre i r e2 hi
  | (j, false) :: rest, h, pre, i, r, e, hi => by
    cases pre with
    | nil => injection e with e1 _; injection e1 with _ e3; cases e3
    | cons p pre =>
      injection e with _ e2
      exact lastB_spec (by simpa [lastB] using h) pre i r e2 hi

/-- All that the kernel reckons of a region and an order. -/
def okB (ops : Array Oper) (m : Nat) (l : List (Nat × Bool)) : Bool :=
  sinkB ops m && Region.noSelect ops && lastB m l && threadB ops l (Array.replicate ops.size false) && (l.length == ops.size)

theorem region {id : Nat} {a : Act} {w : World} (l : List (Nat × Bool)) (m : Nat) (S : World → Prop) (hm : P.follows .mixedOrders = true) (hB : okB ops m l = true)
    (hQ : ∀ c a w d v, Q (.panic c) (a.put d v) w → Q (.panic c) a w) (hS : S w.drew) (h : wpT P ops Q S m l a w.drew) : (Code.region id ops true).wp P Q a w := by
  simp only [okB, Bool.and_eq_true, beq_iff_eq] at hB
  obtain ⟨⟨⟨⟨h1, h2⟩, h3⟩, h4⟩, h5⟩ := hB
  refine wp_region_any hm (wpAny_of_E (S := S) (m := m) _ _ _ _ ?_)
  have := wpAnyE_thread h1 h2 hQ l _ a _ (closed_start ops) (fun _ _ => hS) h4 (lastB_spec h3) h
  rw [h5] at this
  exact this

/-! ### The same over the operations themselves, written out -/
def pick (ops : Array Oper) : List (Nat × Bool) → List (Nat × Bool × Oper)
  | [] => []
  | (i, b) :: rest => match ops[i]? with
    | some o => (i, b, o) :: pick ops rest
    | none => pick ops rest

def wpO (P : Program) (ops : Array Oper) (Q : Exit → Act → World → Prop) (S : World → Prop) (m : Nat) : List (Nat × Bool × Oper) → Act → World → Prop
  | [], a, w => Q .normal a w
  | (_, false, o) :: rest, a, w => ∃ v, YieldsIf P ops S o v a ∧ wpO P ops Q S m rest (a.put o.dst v) w
  | (i, true, o) :: rest, a, w => if Region.wanted o (yielded ops a.tmps) then o.wp P a w (fun a' w' => (i ≠ m → S w') ∧ wpO P ops Q S m rest a' w') Q else (i ≠ m → S w) ∧ wpO P ops Q S m rest (a.put o.dst undef) w

theorem wpT_of_O : ∀ (l : List (Nat × Bool)), (∀ x ∈ l, x.1 < ops.size) → ∀ (a : Act) (w : World), wpO P ops Q S m (pick ops l) a w → wpT P ops Q S m l a w
  | [], _, _, _, h => h
  | (i, b) :: rest, hl, a, w, h => by
    have hlt : i < ops.size := hl (i, b) (by simp)
    have ho : ops[i]? = some ops[i] := Array.getElem?_eq_getElem hlt
    have ih := wpT_of_O rest (fun x hx => hl x (by simp [hx]))
    rw [pick, ho] at h
    cases b with
    | false =>
      obtain ⟨v, hy, hr⟩ := h
      exact ⟨_, v, ho, hy, ih _ _ hr⟩
    | true =>
      show wpOp P ops Q i _ a w
      unfold wpOp
      rw [ho]
      simp only [wpO] at h ⊢
      split
      · rename_i hw
        rw [if_pos hw] at h
        exact .inl (Oper.wp_mono (fun a' w' h' => ⟨h'.1, ih _ _ h'.2⟩) h)
      · rename_i hw
        rw [if_neg hw] at h
        exact ⟨h.1, ih _ _ h.2⟩

theorem drawn {id : Nat} {a : Act} {w : World} (l : List (Nat × Bool)) (m : Nat) (S : World → Prop) (hm : P.follows .mixedOrders = true) (hB : (okB ops m l && l.all fun x => decide (x.1 < ops.size)) = true)
    (hQ : ∀ c a w d v, Q (.panic c) (a.put d v) w → Q (.panic c) a w) (hS : S w.drew) (h : wpO P ops Q S m (pick ops l) a w.drew) : (Code.region id ops true).wp P Q a w := by
  rw [Bool.and_eq_true] at hB
  refine region l m S hm hB.1 hQ hS (wpT_of_O l (fun x hx => ?_) _ _ h)
  have := List.all_eq_true.1 hB.2 x hx
  simpa using this

/-! ### The steps -/
variable {i : Nat} {rest : List (Nat × Bool × Oper)} {o : Oper} {a : Act} {w : World} {v : Value}

theorem read (hg : o.guard = none) (hy : ∀ w', S w' → (execOp a.eval o).run P w' = .ok (.value v) w') (h : wpO P ops Q S m rest (a.put o.dst v) w) :
    wpO P ops Q S m ((i, false, o) :: rest) a w := ⟨v, .inl ⟨by simp [Region.wanted, hg], hy⟩, h⟩

theorem readG (hw : Region.wanted o (yielded ops a.tmps) = true) (hy : ∀ w', S w' → (execOp a.eval o).run P w' = .ok (.value v) w') (h : wpO P ops Q S m rest (a.put o.dst v) w) :
    wpO P ops Q S m ((i, false, o) :: rest) a w := ⟨v, .inl ⟨hw, hy⟩, h⟩

theorem skipG (hw : Region.wanted o (yielded ops a.tmps) = false) (h : wpO P ops Q S m rest (a.put o.dst undef) w) :
    wpO P ops Q S m ((i, false, o) :: rest) a w := ⟨undef, .inr ⟨hw, rfl⟩, h⟩

/-- An operation that is carried out; behind it S is to be shown. -/
theorem act (hg : o.guard = none) (h : ∀ K : Act → World → Prop, (∀ a' w', S w' → wpO P ops Q S m rest a' w' → K a' w') → o.wp P a w K Q) :
    wpO P ops Q S m ((i, true, o) :: rest) a w := by
  simp only [wpO, Region.wanted, hg, if_true]
  exact h _ fun a' w' hS hT => ⟨fun _ => hS, hT⟩

theorem actG (hw : Region.wanted o (yielded ops a.tmps) = true) (h : ∀ K : Act → World → Prop, (∀ a' w', S w' → wpO P ops Q S m rest a' w' → K a' w') → o.wp P a w K Q) :
    wpO P ops Q S m ((i, true, o) :: rest) a w := by
  simp only [wpO, hw, if_true]
  exact h _ fun a' w' hS hT => ⟨fun _ => hS, hT⟩

theorem skipA (hw : Region.wanted o (yielded ops a.tmps) = false) (hS : S w) (h : wpO P ops Q S m rest (a.put o.dst undef) w) :
    wpO P ops Q S m ((i, true, o) :: rest) a w := by
  simp only [wpO, hw, Bool.false_eq_true, if_false]
  exact ⟨fun _ => hS, h⟩

/-- The last one. -/
theorem last (hg : o.guard = none) (h : ∀ K : Act → World → Prop, (∀ a' w', Q .normal a' w' → K a' w') → o.wp P a w K Q) :
    wpO P ops Q S m ((m, true, o) :: []) a w := by
  simp only [wpO, Region.wanted, hg, if_true]
  exact h _ fun a' w' hT => ⟨fun hn => absurd rfl hn, hT⟩

theorem done (h : Q .normal a w) : wpO P ops Q S m [] a w := h
end
end Go.Proofs.Ytnokmbjgfglaoaa.Thr
