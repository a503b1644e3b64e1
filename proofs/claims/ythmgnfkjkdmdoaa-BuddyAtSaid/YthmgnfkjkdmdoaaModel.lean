/- The yard as such: what each call makes of it, and what holds of each yard that calls have made. No program. -/
import Derived.Test.YthmgnfkjkdmdoaaBsf
set_option linter.unusedSimpArgs false
set_option linter.unusedVariables false
set_option linter.unusedSectionVars false
namespace Go.Proofs.Ythmgnfkjkdmdoaa
open Bud

/-- Is a worker in a block? -/
def Blk.has (b : Blk) (w : Nat) : Prop := w / 2 ^ b.o = b.s / 2 ^ b.o
theorem Blk.has_self (b : Blk) : b.has b.s := rfl

/-- The workers that are free. -/
def Yd.Open (y : Yd) (w : Nat) : Prop := w < 2 ^ y.n ∧ w ∉ y.failed ∧ ∀ b ∈ y.taken, ¬ b.has w

structure Good (y : Yd) : Prop where
  le : y.n ≤ 10
  canon : Canon y.n y.Open y.free
  tinc : IncK Blk.s y.taken
  tin : ∀ b ∈ y.taken, b.o ≤ y.n ∧ b.s % 2 ^ b.o = 0 ∧ b.s + 2 ^ b.o ≤ 2 ^ y.n
  tap : ∀ b ∈ y.taken, ∀ c ∈ y.taken, ∀ w, b.has w → c.has w → b = c
  finc : IncK id y.failed
  fin : ∀ w ∈ y.failed, w < 2 ^ y.n

theorem inc_len {α : Type} (k : α → Nat) (N : Nat) : ∀ (l : List α) (a : Nat), IncK k l → (∀ x ∈ l, a ≤ k x ∧ k x < N) → l.length ≤ N - a := by
  intro l
  induction l with
  | nil => intro a _ _; simp
  | cons x l ih =>
    intro a h hb
    obtain ⟨h1, h2⟩ := List.pairwise_cons.1 h
    have := ih (k x + 1) h2 (fun z hz => ⟨h1 z hz, (hb z (List.mem_cons_of_mem _ hz)).2⟩)
    have hx := hb x List.mem_cons_self
    simp only [List.length_cons]
    omega

theorem pow_le_1024 {n : Nat} (h : n ≤ 10) : 2 ^ n ≤ 1024 := Nat.pow_le_pow_right (by omega) (show n ≤ 10 from h)

section
variable {y : Yd} (g : Good y)
include g

theorem Good.sort (q : Nat) : SortK id (y.free q) := (g.canon.inc q).sort

theorem Good.free_in {s o : Nat} (h : s ∈ y.free o) : o ≤ y.n ∧ s % 2 ^ o = 0 ∧ s + 2 ^ o ≤ 2 ^ y.n ∧ Full y.Open (s / 2 ^ o) o := by
  obtain ⟨h1, h2, h3, _⟩ := (g.canon.mem o s).1 h
  refine ⟨h2, h1, ?_, h3⟩
  have hp := pow_pos' o
  have := (h3 (s + 2 ^ o - 1) ((in_block h1 _).2 ⟨by omega, by omega⟩)).1
  omega

theorem Good.len (q : Nat) : (y.free q).length ≤ 1024 := by
  have := inc_len id (2 ^ y.n) (y.free q) 0 (g.canon.inc q) (fun x hx => by
    have := g.free_in hx
    have := pow_pos' q
    simp only [id]
    omega)
  have := pow_le_1024 g.le
  omega
theorem Good.tlen : y.taken.length ≤ 1024 := by
  have := inc_len Blk.s (2 ^ y.n) y.taken 0 g.tinc (fun x hx => by
    have := g.tin x hx
    have := pow_pos' x.o
    omega)
  have := pow_le_1024 g.le
  omega
theorem Good.flen : y.failed.length ≤ 1024 := by
  have := inc_len id (2 ^ y.n) y.failed 0 g.finc (fun x hx => ⟨Nat.zero_le _, g.fin x hx⟩)
  have := pow_le_1024 g.le
  omega

theorem Good.open_lt (w : Nat) (h : y.Open w) : w < 2 ^ y.n := h.1

/-- A block that is free is taken. -/
theorem Good.cut {s q ps po : Nat} (hs : s ∈ y.free q) (hp : ps % 2 ^ po = 0) (hpo : po ≤ q) (he : ps / 2 ^ q = s / 2 ^ q) :
    Good { y with free := splitF y.free s q ps po, taken := insK Blk.s ⟨ps, po⟩ y.taken } := by
  have hc := split_canon g.open_lt g.canon hs hp hpo he
  obtain ⟨hq, ha, hin, hf⟩ := g.free_in hs
  have hfp : Full y.Open (ps / 2 ^ po) po := Full.sub hpo (by rw [he]; exact hf)
  have hnew : ∀ b ∈ y.taken, ∀ w, b.has w → ¬ (⟨ps, po⟩ : Blk).has w := fun b hb w h1 h2 => (hfp w h2).2.2 b hb h1
  refine ⟨g.le, hc.congr fun w => ?_, ?_, ?_, ?_, g.finc, g.fin⟩
  · unfold minus Yd.Open
    simp only [mem_insK]
    constructor
    · rintro ⟨⟨h1, h2, h3⟩, h4⟩
      refine ⟨h1, h2, fun b hb => ?_⟩
      rcases hb with rfl | hb
      · exact h4
      · exact h3 b hb
    · rintro ⟨h1, h2, h3⟩
      exact ⟨⟨h1, h2, fun b hb => h3 b (.inr hb)⟩, h3 _ (.inl rfl)⟩
  · exact inc_insK Blk.s g.tinc fun b hb e => hnew b hb ps (by rw [← show b.s = ps from e]; exact b.has_self) rfl
  · intro b hb
    rw [mem_insK] at hb
    rcases hb with rfl | hb
    · refine ⟨Nat.le_trans hpo hq, hp, ?_⟩
      have hpp := pow_pos' po
      have := (hfp (ps + 2 ^ po - 1) ((in_block hp _).2 ⟨by omega, by omega⟩)).1
      show ps + 2 ^ po ≤ 2 ^ y.n
      omega
    · exact g.tin b hb
  · intro b hb c hcm w hbw hcw
    rw [mem_insK] at hb hcm
    rcases hb with rfl | hb <;> rcases hcm with rfl | hcm
    · rfl
    · exact absurd hbw (hnew c hcm w hcw)
    · exact absurd hcw (hnew b hb w hbw)
    · exact g.tap b hb c hcm w hbw hcw

/-- A worker fails that was free. -/
theorem Good.failIn {s q w : Nat} (hs : s ∈ y.free q) (he : w / 2 ^ q = s / 2 ^ q) :
    Good { y with free := splitF y.free s q w 0, failed := insK id w y.failed } := by
  have hc := split_canon g.open_lt g.canon hs (Nat.mod_one w) (Nat.zero_le q) he
  obtain ⟨hq, ha, hin, hf⟩ := g.free_in hs
  have hw := hf w he
  refine ⟨g.le, hc.congr fun v => ?_, g.tinc, g.tin, g.tap, ?_, ?_⟩
  · unfold minus Yd.Open
    simp only [mem_insK, Nat.pow_zero, Nat.div_one]
    constructor
    · rintro ⟨⟨h1, h2, h3⟩, h4⟩
      exact ⟨h1, fun e => e.elim (fun e => h4 e) h2, h3⟩
    · rintro ⟨h1, h2, h3⟩
      exact ⟨⟨h1, fun e => h2 (.inr e), h3⟩, fun e => h2 (.inl e)⟩
  · exact inc_insK id g.finc fun b hb e => hw.2.1 (by rw [← show b = w from e]; exact hb)
  · intro v hv
    rw [mem_insK] at hv
    rcases hv with rfl | hv
    · exact hw.1
    · exact g.fin v hv

/-- A worker fails that was not free. -/
theorem Good.failOut {w : Nat} (hw : ¬ y.Open w) (hn : w ∉ y.failed) (hlt : w < 2 ^ y.n) : Good { y with failed := insK id w y.failed } := by
  refine ⟨g.le, g.canon.congr fun v => ?_, g.tinc, g.tin, g.tap, ?_, ?_⟩
  · unfold Yd.Open
    simp only [mem_insK]
    constructor
    · rintro ⟨h1, h2, h3⟩
      refine ⟨h1, fun e => e.elim (fun e => ?_) h2, h3⟩
      exact hw (by rw [← show v = w from e]; exact ⟨h1, h2, h3⟩)
    · rintro ⟨h1, h2, h3⟩
      exact ⟨h1, fun e => h2 (.inr e), h3⟩
  · exact inc_insK id g.finc fun b hb e => hn (by rw [← show b = w from e]; exact hb)
  · intro v hv
    rw [mem_insK] at hv
    rcases hv with rfl | hv
    · exact hlt
    · exact g.fin v hv

/-- A taken block goes back. -/
theorem Good.give {b : Blk} (hb : b ∈ y.taken) : Good { y with free := openF y.n y.failed y.free b.s b.o, taken := delK Blk.s b.s y.taken } := by
  obtain ⟨h1, h2, h3⟩ := g.tin b hb
  have hd : ∀ w, w / 2 ^ b.o = b.s / 2 ^ b.o → ¬ y.Open w := fun w hw ho => ho.2.2 b hb hw
  have hc := open_canon (bad := y.failed) b.o b.s y.Open y.free g.open_lt g.canon h1 h2 h3 hd
  have hmem : ∀ c, c ∈ delK Blk.s b.s y.taken ↔ c ∈ y.taken ∧ c ≠ b := by
    intro c
    rw [mem_delK Blk.s g.tinc hb rfl]
    constructor
    · rintro ⟨hc, hn⟩
      exact ⟨hc, fun e => hn (by rw [e])⟩
    · rintro ⟨hc, hn⟩
      refine ⟨hc, fun e => hn ?_⟩
      refine g.tap c hc b hb c.s c.has_self ?_
      show c.s / 2 ^ b.o = b.s / 2 ^ b.o
      rw [e]
  refine ⟨g.le, hc.congr fun w => ?_, inc_delK Blk.s g.tinc, fun c hc => g.tin c ((hmem c).1 hc).1, fun c hc d hd => g.tap c ((hmem c).1 hc).1 d ((hmem d).1 hd).1, g.finc, g.fin⟩
  unfold Yd.Open
  simp only [hmem]
  constructor
  · rintro (⟨h4, h5, h6⟩ | ⟨h4, h5⟩)
    · exact ⟨h4, h5, fun c hc => h6 c hc.1⟩
    · refine ⟨?_, h5, fun c hc hw => hc.2 (g.tap c hc.1 b hb w hw h4)⟩
      have := (in_block h2 w).1 h4
      omega
  · rintro ⟨h4, h5, h6⟩
    by_cases hw : b.has w
    · exact .inr ⟨hw, h5⟩
    · refine .inl ⟨h4, h5, fun c hc => ?_⟩
      by_cases e : c = b
      · rw [e]; exact hw
      · exact h6 c ⟨hc, e⟩

/-- A worker that lies in a taken block comes back. -/
theorem Good.healIn {w : Nat} (hw : w ∈ y.failed) {b : Blk} (hb : b ∈ y.taken) (hbw : b.has w) : Good { y with failed := delK id w y.failed } := by
  have hmem : ∀ v, v ∈ delK id w y.failed ↔ v ∈ y.failed ∧ v ≠ w := fun v => mem_delK id g.finc hw rfl
  refine ⟨g.le, g.canon.congr fun v => ?_, g.tinc, g.tin, g.tap, inc_delK id g.finc, fun v hv => g.fin v ((hmem v).1 hv).1⟩
  unfold Yd.Open
  simp only [hmem]
  constructor
  · rintro ⟨h1, h2, h3⟩
    exact ⟨h1, fun e => h2 e.1, h3⟩
  · rintro ⟨h1, h2, h3⟩
    refine ⟨h1, fun e => h2 ⟨e, ?_⟩, h3⟩
    rintro rfl
    exact h3 b hb hbw

/-- A worker that no taken block holds comes back. -/
theorem Good.healOut {w : Nat} (hw : w ∈ y.failed) (hn : ∀ b ∈ y.taken, ¬ b.has w) : Good { y with free := layF y.n y.free w 0, failed := delK id w y.failed } := by
  have hmem : ∀ v, v ∈ delK id w y.failed ↔ v ∈ y.failed ∧ v ≠ w := fun v => mem_delK id g.finc hw rfl
  have hlt := g.fin w hw
  have hc := lay_plus g.open_lt g.canon (Nat.zero_le _) (Nat.mod_one w) (by simp; omega) (fun v hv ho => by
    simp only [Nat.pow_zero, Nat.div_one] at hv
    subst hv
    exact ho.2.1 hw)
  refine ⟨g.le, hc.congr fun v => ?_, g.tinc, g.tin, g.tap, inc_delK id g.finc, fun v hv => g.fin v ((hmem v).1 hv).1⟩
  unfold plus Yd.Open
  simp only [hmem, Nat.pow_zero, Nat.div_one]
  constructor
  · rintro (⟨h1, h2, h3⟩ | rfl)
    · exact ⟨h1, fun e => h2 e.1, h3⟩
    · exact ⟨hlt, fun e => e.2 rfl, hn⟩
  · rintro ⟨h1, h2, h3⟩
    by_cases e : v = w
    · exact .inr e
    · exact .inl ⟨h1, fun hf => h2 ⟨hf, e⟩, h3⟩

end

/-- A yard of which nothing is taken. -/
def newY (n : Nat) : Yd := ⟨n, fun q => if q = n then [0] else [], [], []⟩
theorem new_good {n : Nat} (h : n ≤ 10) : Good (newY n) := by
  refine ⟨h, ⟨fun o => ?_, fun o s => ?_⟩, List.Pairwise.nil, fun b hb => absurd hb (List.not_mem_nil), fun b hb => absurd hb (List.not_mem_nil), List.Pairwise.nil, fun b hb => absurd hb (List.not_mem_nil)⟩
  · simp only [newY]
    split
    · exact List.pairwise_singleton _ _
    · exact List.Pairwise.nil
  · have hU : ∀ w, (newY n).Open w ↔ w < 2 ^ n := fun w => by simp [Yd.Open, newY]
    have hpn := pow_pos' n
    simp only [newY] at *
    unfold Top
    constructor
    · intro hm
      split at hm
      · rename_i e
        subst e
        simp at hm
        subst hm
        refine ⟨Nat.zero_mod _, Nat.le_refl _, fun w hw => (hU w).2 ?_, .inl rfl⟩
        rw [Nat.zero_div] at hw
        exact (Nat.div_eq_zero_iff_lt hpn).1 hw
      · simp at hm
    · rintro ⟨h1, h2, h3, h4⟩
      have hs : s < 2 ^ n := (hU s).1 (h3 s rfl)
      by_cases he : o = n
      · subst he
        rw [if_pos rfl]
        have h0 : s / 2 ^ o = 0 := (Nat.div_eq_zero_iff_lt hpn).2 hs
        have h5 := aligned s o h1
        rw [h0, Nat.zero_mul] at h5
        simp [← h5]
      · rw [if_neg he]
        exfalso
        refine (h4.resolve_left he) fun w hw => (hU w).2 ?_
        rw [← div_succ] at hw
        have e : 2 ^ n = 2 ^ (n - (o + 1)) * 2 ^ (o + 1) := by rw [← Nat.pow_add]; congr 1; omega
        have hp := pow_pos' (o + 1)
        have h5 : s / 2 ^ (o + 1) < 2 ^ (n - (o + 1)) := by rw [Nat.div_lt_iff_lt_mul hp, ← e]; exact hs
        rw [← hw, Nat.div_lt_iff_lt_mul hp, ← e] at h5
        exact h5
end Go.Proofs.Ythmgnfkjkdmdoaa
