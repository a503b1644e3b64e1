/- Contract: Take. -/
import Derived.Test.YthmgnfkjkdmdoaaModel
import Derived.Test.YthmgnfkjkdmdoaaHold
import Derived.Test.YthmgnfkjkdmdoaaSplit
set_option linter.unusedSimpArgs false
set_option linter.unusedVariables false
namespace Go.Proofs.Ythmgnfkjkdmdoaa
open Go Go.RowKit Bud

/-- The least order, from o on, of which a block is free. -/
def firstF (n : Nat) (f : Nat → List Nat) (o : Nat) : Option Nat :=
  if o ≤ n then if (f o).length = 0 then firstF n f (o + 1) else some o else none
termination_by n + 1 - o
decreasing_by omega
theorem firstF_hit {n : Nat} {f : Nat → List Nat} {o : Nat} (h1 : o ≤ n) (h2 : (f o).length ≠ 0) : firstF n f o = some o := by rw [firstF, if_pos h1, if_neg h2]
theorem firstF_miss {n : Nat} {f : Nat → List Nat} {o : Nat} (h1 : o ≤ n) (h2 : (f o).length = 0) : firstF n f o = firstF n f (o + 1) := by rw [firstF, if_pos h1, if_pos h2]
theorem firstF_end {n : Nat} {f : Nat → List Nat} {o : Nat} (h1 : ¬ o ≤ n) : firstF n f o = none := by rw [firstF, if_neg h1]
theorem firstF_some {n : Nat} {f : Nat → List Nat} : ∀ (d o q : Nat), n + 1 - o = d → firstF n f o = some q → o ≤ q ∧ q ≤ n ∧ (f q).length ≠ 0 := by
  intro d
  induction d with
  | zero => intro o q hd h; rw [firstF_end (by omega)] at h; cases h
  | succ d ih =>
    intro o q hd h
    by_cases hl : (f o).length = 0
    · rw [firstF_miss (by omega) hl] at h
      have := ih (o + 1) q (by omega) h
      omega
    · rw [firstF_hit (by omega) hl] at h
      cases h
      exact ⟨Nat.le_refl _, by omega, hl⟩
theorem firstF_none {n : Nat} {f : Nat → List Nat} : ∀ (d o : Nat), n + 1 - o = d → firstF n f o = none → ∀ q, o ≤ q → q ≤ n → (f q).length = 0 := by
  intro d
  induction d with
  | zero => intro o hd h q h1 h2; omega
  | succ d ih =>
    intro o hd h q h1 h2
    by_cases hl : (f o).length = 0
    · rw [firstF_miss (by omega) hl] at h
      rcases Nat.eq_or_lt_of_le h1 with rfl | hlt
      · exact hl
      · exact ih (o + 1) (by omega) h q hlt h2
    · rw [firstF_hit (by omega) hl] at h
      cases h

/-- What Take makes of a yard, and answers. -/
def takeY (y : Yd) (x : Int) : Yd × Int × Int :=
  if x < 0 ∨ (y.n : Int) < x then (y, 0, 2) else
  match firstF y.n y.free x.toNat with
  | none => (y, 0, 5)
  | some q => ({ y with free := splitF y.free ((y.free q).headD 0) q ((y.free q).headD 0) x.toNat, taken := insK Blk.s ⟨(y.free q).headD 0, x.toNat⟩ y.taken }, (((y.free q).headD 0 : Nat) : Int), 0)

theorem take_good {y : Yd} (g : Good y) (x : Int) : Good (takeY y x).1 := by
  unfold takeY
  split
  · exact g
  · split
    · exact g
    · rename_i q hq
      obtain ⟨h1, h2, h3⟩ := firstF_some _ _ _ rfl hq
      have hm : (y.free q).headD 0 ∈ y.free q := by
        cases he : y.free q with
        | nil => simp [he] at h3
        | cons a l => simp
      have ha := (g.free_in hm).2.1
      refine g.cut hm ?_ h1 rfl
      have e : 2 ^ q = 2 ^ x.toNat * 2 ^ (q - x.toNat) := by rw [← Nat.pow_add]; congr 1; omega
      rw [e] at ha
      exact Nat.mod_eq_zero_of_dvd (Nat.dvd_trans ⟨_, rfl⟩ (Nat.dvd_of_mod_eq_zero ha))

set_option maxHeartbeats 4000000 in
set_option maxRecDepth 100000 in
theorem take_bad {w : World} {yb : Nat} {cs : Array Value} {y : Yd} (h : YardAt w yb cs y) (x : Int) (hx : x < 0 ∨ (y.n : Int) < x) :
    Calls Try.prog 31 #[.pointer (some ⟨yb, 0, none⟩), .int .i64 x] w fun e w' => e = .returned (.tuple #[.int .i64 0, .int .i64 2]) ∧ w' = w := by
  have q0 : w.cell? ⟨yb, 0, none⟩ = some (.int .i64 (y.n : Int)) := h.order_cell
  by_cases h1 : x < 0
  · go_enter Try.func31, Try.ntmps31
    go_wp2_with fail
    go_ret2
    exact ⟨rfl, rfl⟩
  · have h2 : x > (y.n : Int) := by omega
    go_enter Try.func31, Try.ntmps31
    go_wp2_with fail
    go_ret2
    exact ⟨rfl, rfl⟩

set_option maxHeartbeats 4000000 in
set_option maxRecDepth 100000 in
theorem take_ok {w : World} {yb : Nat} {cs : Array Value} {y : Yd} (h : YardAt w yb cs y) (g : Good y) (k : Nat) (hk : k ≤ y.n) :
    Calls Try.prog 31 #[.pointer (some ⟨yb, 0, none⟩), .int .i64 (k : Int)] w fun e w' => e = .returned (.tuple #[.int .i64 (takeY y (k : Int)).2.1, .int .i64 (takeY y (k : Int)).2.2]) ∧
      ∃ cs', YardAt w' yb cs' (takeY y (k : Int)).1 ∧ Step w yb cs w' cs' := by
  have hle := h.le
  have ht : takeY y (k : Int) = match firstF y.n y.free k with
    | none => (y, 0, 5)
    | some q => ({ y with free := splitF y.free ((y.free q).headD 0) q ((y.free q).headD 0) k, taken := insK Blk.s ⟨(y.free q).headD 0, k⟩ y.taken }, (((y.free q).headD 0 : Nat) : Int), 0) := by
    unfold takeY
    rw [if_neg (by omega)]
    rfl
  obtain ⟨T, hT⟩ : ∃ T, T = takeY y (k : Int) := ⟨_, rfl⟩
  rw [← hT] at ht ⊢
  have HT := Lib.hid ht
  clear ht hT
  have q0 : w.cell? ⟨yb, 0, none⟩ = some (.int .i64 (y.n : Int)) := h.order_cell
  have h1 : ¬ ((k : Int) < 0) := by omega
  have h2 : ¬ ((k : Int) > (y.n : Int)) := by omega
  go_enter Try.func31, Try.ntmps31
  go_wp2_with fail
  go_loopg [6] (y.n + 1 - k) (fun g s6 wr => ∃ ok : Nat, s6 = .int .i64 (ok : Int) ∧ wr = w ∧ k ≤ ok ∧ ok ≤ y.n + 1 ∧ firstF y.n y.free k = firstF y.n y.free ok ∧ y.n + 1 - ok ≤ g)
  case atStart => exact ⟨k, rfl, rfl, Nat.le_refl _, by omega, rfl, Nat.le_refl _⟩
  case round =>
    obtain ⟨ok, rfl, rfl, hkk, hok, hfo, hgk⟩ := hrel
    have HFO := Lib.hid hfo
    clear hfo
    by_cases hlt : ok ≤ y.n
    · have hlt' : (ok : Int) ≤ (y.n : Int) := by omega
      obtain ⟨a, c, hf, hn, hc, hg⟩ := own_form (h.free ok (by omega))
      have ho1 : OwnN wr (.slice a (y.free ok).length c) (y.free ok) := by rw [← hf]; exact h.free ok (by omega)
      have c2 : wr.cell? ⟨yb, 1 + ok, none⟩ = some (.slice a (y.free ok).length c) := by rw [← hf]; exact h.cell (1 + ok) (by omega)
      have i0 : (0 : Int) ≤ (ok : Int) := by omega
      have i1 : (ok : Int) < 11 := by omega
      clear hf
      obtain ⟨l, hl⟩ : ∃ l, l = y.free ok := ⟨_, rfl⟩
      rw [← hl] at ho1 c2 hg hn
      have HL := Lib.hid hl
      clear hl
      cases l with
      | nil =>
        simp only [List.length_nil] at ho1 c2
        go_wp2_with fail
        rw [show (ok : Int) + 1 = ((ok + 1 : Nat) : Int) by omega]
        go_roundg (gk - 1)
        case measure => omega
        case rel =>
          refine ⟨ok + 1, rfl, rfl, by omega, by omega, ?_, by omega⟩
          rw [HFO.out, firstF_miss hlt (by rw [← HL.out, List.length_nil])]
      | cons s rest =>
        obtain ⟨b, rfl⟩ := hg.resolve_left (by simp)
        have e0 : wr.cell? ⟨b, 0, none⟩ = some (.int .i64 (s : Int)) := own_cells ho1 0 _ (by simp [nv])
        have hT2 : T = ({ y with free := splitF y.free s ok s k, taken := insK Blk.s ⟨s, k⟩ y.taken }, ((s : Nat) : Int), 0) := by
          rw [HT.out, HFO.out, firstF_hit hlt (by rw [← HL.out]; simp)]
          simp only [← HL.out, List.headD_cons]
        have hs : s ∈ y.free ok := by rw [← HL.out]; simp
        obtain ⟨g1, g2, g3, g4⟩ := g.free_in hs
        have hp10 := pow_le_1024 g.le
        have hsp := fun W (hW : YardAt W yb cs y) => split_calls hW s ok s k hlt (by omega) hs g2 (by
          have e : 2 ^ ok = 2 ^ k * 2 ^ (ok - k) := by rw [← Nat.pow_add]; congr 1; omega
          rw [e] at g2
          exact Nat.mod_eq_zero_of_dvd (Nat.dvd_trans ⟨_, rfl⟩ (Nat.dvd_of_mod_eq_zero g2))) hkk rfl g.sort (fun q => by have := g.len q; omega)
        have hhd := fun W cs2 (hW : YardAt W yb cs2 { y with free := splitF y.free s ok s k }) => hold_calls hW s k g.tinc.sort (by show y.taken.length ≤ _; have := g.tlen; omega)
        have HSP := Lib.hid hsp
        have HHD := Lib.hid hhd
        have HT2 := Lib.hid hT2
        have hln : (0 : Int) < ((s :: rest).length : Int) := by rw [List.length_cons]; omega
        obtain ⟨B, hB⟩ : ∃ B, B = wr.heap.size := ⟨_, rfl⟩
        obtain ⟨W1, hW1⟩ : ∃ W1, W1 = ((wr.alloc (.cells #[.int .i64 (s : Int), .int .i64 (ok : Int)] 31)).alloc (.cells #[.int .i64 (s : Int), .int .i64 (k : Int)] 31)) := ⟨_, rfl⟩
        have hb1 : W1.heap[B]? = some (.cells #[.int .i64 (s : Int), .int .i64 (ok : Int)] 31 (0, 0)) := by
          rw [hW1, hB, heap_alloc_old _ _ (by simp)]; exact box_heap _ _ _
        have hb2 : W1.heap[B + 1]? = some (.cells #[.int .i64 (s : Int), .int .i64 (k : Int)] 31 (0, 0)) := by
          have := box_heap (wr.alloc (.cells #[.int .i64 (s : Int), .int .i64 (ok : Int)] 31)) #[.int .i64 (s : Int), .int .i64 (k : Int)] 31
          rw [show (wr.alloc (.cells #[.int .i64 (s : Int), .int .i64 (ok : Int)] 31)).heap.size = B + 1 by simp [hB]] at this
          rw [hW1]; exact this
        have hy1 : YardAt W1 yb cs y := by rw [hW1]; exact (h.alloc _).alloc _
        have hst1 : Step wr yb cs W1 cs := by rw [hW1]; exact ((Step.refl _ _ _).alloc _).alloc _
        have hnf : ∀ i, B ≤ i → ¬ foot yb cs i := fun i hi hf => by have := h.foot_lt i hf; omega
        have hsz : B + 1 < W1.heap.size := (Array.getElem?_eq_some_iff.1 hb2).1
        have HB := Lib.hid hB
        have HW := Lib.hid hW1
        clear hB hW1
        clear hT2 hsp hhd g1 g2 g3 g4 hs hp10
        generalize (s :: rest).length = n at *
        have hln' : ((n : Int) > 0) := hln
        have hm : YardAt wr yb cs y := h
        go_wp2_with fail
        rw [← HW.out, ← HB.out]
        refine (HSP.out _ hy1).mono ?_
        rintro e w2 ⟨rfl, cs2, hy2, hst2⟩
        replace hb1 := (hst2.keeps.block B (by omega) (hnf B (Nat.le_refl _))).trans hb1
        replace hb2 := (hst2.keeps.block (B + 1) hsz (hnf (B + 1) (by omega))).trans hb2
        have hn1 := hst2.notFoot (B := B) (by omega) (hnf B (Nat.le_refl _))
        have hsz2 : B < w2.heap.size := (Array.getElem?_eq_some_iff.1 hb1).1
        obtain ⟨p0, p1⟩ := two_cells hb2
        clear HW
        go_wp2_with fail
        refine (HHD.out _ _ hy2).mono ?_
        rintro e w3 ⟨rfl, cs3, hy3, hst3⟩
        replace hb1 := (hst3.keeps.block B hsz2 hn1).trans hb1
        obtain ⟨c0, c1⟩ := two_cells hb1
        clear p0 p1 hb2
        go_wp2_with fail
        go_ret2
        rw [HT2.out]
        exact ⟨rfl, cs3, hy3, (hst1.trans hst2).trans hst3⟩
    · have hlt' : ¬ ((ok : Int) ≤ (y.n : Int)) := by omega
      have hT2 : T = (y, 0, 5) := by
        rw [HT.out, HFO.out, firstF_end hlt]
      have HT2 := Lib.hid hT2
      clear hT2
      go_wp2_with fail
      go_ret2
      rw [HT2.out]
      exact ⟨rfl, cs, h, Step.refl _ _ _⟩
end Go.Proofs.Ythmgnfkjkdmdoaa
