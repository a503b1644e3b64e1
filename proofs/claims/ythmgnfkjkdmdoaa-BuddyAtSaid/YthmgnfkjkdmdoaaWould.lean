/- Contract: Would. -/
import Derived.Test.YthmgnfkjkdmdoaaFree
import Derived.Test.YthmgnfkjkdmdoaaThread
set_option linter.unusedSimpArgs false
set_option linter.unusedVariables false
namespace Go.Proofs.Ythmgnfkjkdmdoaa
open Go Go.RowKit Bud

def base2 (n : Nat) (vt vf : Value) : Array Value := #[.int .i64 (n : Int), nil_, nil_, nil_, nil_, nil_, nil_, nil_, nil_, nil_, nil_, nil_, vt, vf]

theorem at_base2 (n : Nat) (vt vf : Value) (i : Nat) (h1 : 1 ≤ i) (h2 : i < 14) : at_ (base2 n vt vf) i = if i = 12 then vt else if i = 13 then vf else nil_ := by
  have : i = 1 ∨ i = 2 ∨ i = 3 ∨ i = 4 ∨ i = 5 ∨ i = 6 ∨ i = 7 ∨ i = 8 ∨ i = 9 ∨ i = 10 ∨ i = 11 ∨ i = 12 ∨ i = 13 := by omega
  rcases this with rfl | rfl | rfl | rfl | rfl | rfl | rfl | rfl | rfl | rfl | rfl | rfl | rfl <;> rfl

theorem would_yard {w : World} {n zb : Nat} {vt vf : Value} {tk : List Blk} {fl : List Nat} (hn : n ≤ 10) (hz : w.heap[zb]? = some (.cells (base2 n vt vf) 62 (0, 0))) (ht : OwnB w vt tk) (hf : OwnN w vf fl)
    (ap : ∀ k, vt.ownBlock = some k → vf.ownBlock ≠ some k) (nt : vt.ownBlock ≠ some zb) (nf : vf.ownBlock ≠ some zb) : YardAt w zb (base2 n vt vf) ⟨n, fun _ => [], tk, fl⟩ := by
  refine ⟨hz, rfl, rfl, hn, fun o ho => ?_, ?_, ?_, fun i j k h1 h2 h3 h4 h5 h6 => ?_, fun i h1 h2 h3 => ?_⟩
  · rw [at_base2 _ _ _ _ (by omega) (by omega), if_neg (by omega), if_neg (by omega)]
    exact ⟨rfl, .inl ⟨rfl, rfl⟩⟩
  · rw [at_base2 _ _ _ _ (by omega) (by omega), if_pos rfl]; exact ht
  · rw [at_base2 _ _ _ _ (by omega) (by omega), if_neg (by omega), if_pos rfl]; exact hf
  · rw [at_base2 _ _ _ _ h1 h2] at h5
    rw [at_base2 _ _ _ _ h3 h4] at h6
    split at h5
    · split at h6
      · omega
      · split at h6
        · exact absurd h6 (ap k h5)
        · simp [nil_, Value.ownBlock] at h6
    · split at h5
      · split at h6
        · exact absurd h5 (ap k h6)
        · split at h6
          · omega
          · simp [nil_, Value.ownBlock] at h6
      · simp [nil_, Value.ownBlock] at h5
  · rw [at_base2 _ _ _ _ h1 h2] at h3
    split at h3
    · exact nt h3
    · split at h3
      · exact nf h3
      · simp [nil_, Value.ownBlock] at h3

/-- The free lists below an order; none from there on. -/
def upF (f : Nat → List Nat) (k : Nat) : Nat → List Nat := fun o => if o < k then f o else []
theorem upF_succ (f : Nat → List Nat) (k : Nat) : upd (upF f k) k (f k) = upF f (k + 1) := by
  funext o
  unfold upd upF
  by_cases h : o = k
  · subst h; simp
  · by_cases h2 : o < k
    · rw [if_neg h, if_pos h2, if_pos (by omega)]
    · rw [if_neg h, if_neg h2, if_neg (by omega)]
theorem upF_all {y : Yd} (g : Good y) : upF y.free 11 = y.free := by
  funext o
  unfold upF
  by_cases h : o < 11
  · rw [if_pos h]
  · rw [if_neg h]
    cases hf : y.free o with
    | nil => rfl
    | cons s l => have := (g.free_in (s := s) (o := o) (by rw [hf]; exact List.mem_cons_self)).1; have := g.le; omega

/-- The yard after some were given back. -/
def giveAll (y : Yd) (G : Nat → Int) : Nat → Yd
  | 0 => y
  | k + 1 => (giveY (giveAll y G k) (G k)).1
theorem giveAll_good {y : Yd} (g : Good y) (G : Nat → Int) : ∀ k, Good (giveAll y G k)
  | 0 => g
  | k + 1 => give_good (giveAll_good g G k) _

def IntsAt (w : World) (a : Addr) (n : Nat) (G : Nat → Int) : Prop := ∀ j, j < n → w.cell? (a.add j) = some (.int .i64 (G j))

theorem fresh_step {w w1 w2 : World} {yb : Nat} {cs cs2 : Array Value} (hb : Below w.heap.size w w1) (hf : ∀ k, foot yb cs k → w.heap.size ≤ k) (hst : Step w1 yb cs w2 cs2) : (∀ k, foot yb cs2 k → w.heap.size ≤ k) ∧ Below w.heap.size w w2 := by
  refine ⟨fun i hi => ?_, ?_⟩
  · rcases hst.fresh i hi with h | h
    · exact hf i h
    · exact Nat.le_trans hb.size h
  · exact ⟨hst.keeps.os.trans hb.os, hst.keeps.tape.trans hb.tape, hst.keeps.output.trans hb.output, Nat.le_trans hb.size hst.keeps.size, fun i hi => (hst.keeps.block i (Nat.lt_of_lt_of_le hi hb.size) (fun hh => by have := hf i hh; omega)).trans (hb.block i hi)⟩

set_option maxHeartbeats 8000000 in
set_option maxRecDepth 100000 in
theorem would_walk {w : World} {yb : Nat} {cs : Array Value} {y : Yd} (h : YardAt w yb cs y) (g : Good y) (x : Int) (gv : Value) (n : Nat) (G : Nat → Int) (hgv : (gv = .slice none 0 0 ∧ n = 0) ∨ ∃ a c, gv = .slice (some a) n c ∧ IntsAt w a n G) (hnm : n ≤ maxLen) :
    Calls Try.prog 28 #[.pointer (some ⟨yb, 0, none⟩), .int .i64 x, gv] w fun e w' => e = .returned (.bool (fitsY (giveAll y G n) x)) ∧ Below w.heap.size w w' := by
  obtain ⟨ga, gc, rfl, hgs⟩ : ∃ ga gc, gv = .slice ga n gc ∧ (n = 0 ∨ ∃ a, ga = some a ∧ IntsAt w a n G) := by
    rcases hgv with ⟨rfl, rfl⟩ | ⟨a, c, rfl, hi⟩
    · exact ⟨none, 0, rfl, .inl rfl⟩
    · exact ⟨some a, c, rfl, .inr ⟨a, rfl, hi⟩⟩
  have HGS := Lib.hid hgs
  have hmx : n ≤ 9223372036854775807 := hnm
  clear hgv hgs hnm
  have hle := h.le
  have q0 : w.cell? ⟨yb, 0, none⟩ = some (.int .i64 (y.n : Int)) := h.order_cell
  have c12 := h.cell 12 (by omega)
  have c13 := h.cell 13 (by omega)
  have hy : YardAt w yb cs y := h
  have hclB := fun W (hW : YardAt W yb cs y) => cloneB hW.taken (by have := g.tlen; omega)
  have hclN := fun W (hW : YardAt W yb cs y) => cloneN hW.failed (by have := g.flen; omega)
  have HB := Lib.hid hclB
  have HN := Lib.hid hclN
  clear hclB hclN
  go_enter Try.func28, Try.ntmps28
  go_wp2_with fail
  refine Thr.drawn [(0, false), (1, false), (2, false), (3, false), (4, false), (5, false), (6, false), (7, false), (9, false), (10, false), (11, false), (12, false), (8, true), (13, true), (14, false), (15, true), (16, false)] 17
    (fun w' => w'.cell? ⟨yb, 0, none⟩ = some (.int .i64 (y.n : Int)) ∧ w'.cell? ⟨yb, 12, none⟩ = some (at_ cs 12) ∧ w'.cell? ⟨yb, 13, none⟩ = some (at_ cs 13)) (by kernel_rfl) (by kernel_rfl) (fun c a w d v h => by cases d <;> exact h) ⟨q0, c12, c13⟩ ?_
  simp only [Thr.pick, Array.reduceGetElem?]
  iterate 12
    apply Thr.read rfl
    · intro w' hS
      go_simp
      (repeat rw [if_pos (by omega)])
      try with_reducible rfl
    simp only [Act.put, List.setIfInBounds_toArray, List.set_cons_zero, List.set_cons_succ]
  apply Thr.act rfl
  intro K hK
  go_simp
  refine (HB.out _ (hy.drewN 1)).mono ?_
  rintro e w1 ⟨vt, rfl, ht1, hft, hb1⟩
  obtain ⟨ta, tc, rfl, _, _, _⟩ := own_form ht1
  have HFT := Lib.hid hft
  clear hft
  have hy1 := (hy.drewN 1).below hb1
  refine hK _ _ ⟨hy1.order_cell, hy1.cell 12 (by omega), hy1.cell 13 (by omega)⟩ ?_
  clear hK K
  try simp only [Act.put, List.setIfInBounds_toArray, List.set_cons_zero, List.set_cons_succ]
  apply Thr.act rfl
  intro K hK
  go_simp
  refine (HN.out _ hy1).mono ?_
  rintro e w2 ⟨vf, rfl, hf2, hff, hb2⟩
  obtain ⟨fa, fc, rfl, _, _, _⟩ := own_form hf2
  have HFF := Lib.hid hff
  clear hff
  have hy2 := hy1.below hb2
  refine hK _ _ ⟨hy2.order_cell, hy2.cell 12 (by omega), hy2.cell 13 (by omega)⟩ ?_
  clear hK K
  try simp only [Act.put, List.setIfInBounds_toArray, List.set_cons_zero, List.set_cons_succ]
  iterate 1
    apply Thr.read rfl
    · intro w' hS
      go_simp
      (repeat rw [if_pos (by omega)])
      try with_reducible rfl
    simp only [Act.put, List.setIfInBounds_toArray, List.set_cons_zero, List.set_cons_succ]
  apply Thr.act rfl
  intro K hK
  go_simp
  have hs2 : w.heap.size ≤ w1.heap.size := hb1.size
  have hs3 : w1.heap.size ≤ w2.heap.size := hb2.size
  obtain ⟨VT, hVT⟩ : ∃ VT, VT = Value.slice ta y.taken.length tc := ⟨_, rfl⟩
  obtain ⟨VF, hVF⟩ : ∃ VF, VF = Value.slice fa y.failed.length fc := ⟨_, rfl⟩
  obtain ⟨W3, hW3⟩ : ∃ W3, W3 = w2.alloc (.cells (base2 y.n VT VF) 62) := ⟨_, rfl⟩
  have hz3 : W3.heap[w2.heap.size]? = some (.cells (base2 y.n VT VF) 62 (0, 0)) := by rw [hW3]; exact box_heap _ _ _
  have hb3 : Below w2.heap.size w2 W3 := by rw [hW3]; exact below_alloc' w2 _
  have hbw : Below w.heap.size w W3 := ((below_drewN' w 1).trans (hb1.mono (Nat.le_refl _))).trans ((hb2.mono hs2).trans (hb3.mono (Nat.le_trans hs2 hs3)))
  have hy3 := hy2.below hb3
  have hlt1 : ∀ k, VT.ownBlock = some k → w.heap.size ≤ k ∧ k < w1.heap.size := fun k hk => by
    rw [hVT] at hk
    exact ⟨HFT.out k hk, (ht1.lt k hk).2⟩
  have hlt2 : ∀ k, VF.ownBlock = some k → w1.heap.size ≤ k ∧ k < w2.heap.size := fun k hk => by
    rw [hVF] at hk
    exact ⟨HFF.out k hk, (hf2.lt k hk).2⟩
  have hzy : YardAt W3 w2.heap.size (base2 y.n VT VF) { y with free := upF y.free 0 } := by
    have h1 : OwnB W3 VT y.taken := by
      rw [hVT]
      exact own_keeps ht1 (Keeps.of_below (F := fun _ => False) (hb2.trans (hb3.mono hs3))) (fun _ _ h => h)
    have h2 : OwnN W3 VF y.failed := by
      rw [hVF]
      exact own_keeps hf2 (Keeps.of_below (F := fun _ => False) hb3) (fun _ _ h => h)
    have := would_yard hle hz3 h1 h2 (fun k hk hk2 => by have := hlt1 k hk; have := hlt2 k hk2; omega) (fun hk => by have := hlt1 _ hk; omega) (fun hk => by have := hlt2 _ hk; omega)
    rw [show upF y.free 0 = fun _ => [] by funext o; simp [upF]]
    exact this
  have hzf : ∀ k, foot w2.heap.size (base2 y.n VT VF) k → w.heap.size ≤ k := fun k hk => by
    rcases hk with rfl | ⟨i, i1, i2, i3⟩
    · omega
    · rw [at_base2 _ _ _ _ i1 i2] at i3
      split at i3
      · exact (hlt1 k i3).1
      · split at i3
        · have := hlt2 k i3; omega
        · simp [nil_, Value.ownBlock] at i3
  have hW3' : W3 = w2.alloc (.cells #[.int .i64 (y.n : Int), .slice none 0 0, .slice none 0 0, .slice none 0 0, .slice none 0 0, .slice none 0 0, .slice none 0 0, .slice none 0 0, .slice none 0 0, .slice none 0 0, .slice none 0 0, .slice none 0 0, .slice ta y.taken.length tc, .slice fa y.failed.length fc] 62) := by rw [hW3, hVT, hVF]; rfl
  rw [← hW3']
  have hnil : ∀ i, i < 11 → at_ (base2 y.n VT VF) (1 + i) = nil_ := fun i hi => by rw [at_base2 _ _ _ _ (by omega) (by omega), if_neg (by omega), if_neg (by omega)]
  obtain ⟨zb, hzb⟩ : ∃ zb, zb = w2.heap.size := ⟨_, rfl⟩
  rw [← hzb] at hzy hzf ⊢
  refine hK _ _ ⟨hy3.order_cell, hy3.cell 12 (by omega), hy3.cell 13 (by omega)⟩ ?_
  generalize base2 y.n VT VF = cz0 at *
  have HNIL := Lib.hid hnil
  clear hnil
  clear hK K hW3 hW3' hVT hVF hz3 hb3 hlt1 hlt2 hy2 hy1 ht1 hf2 hb1 hb2 hs2 hs3 HFT HFF hzb q0 c12 c13
  try simp only [Act.put, List.setIfInBounds_toArray, List.set_cons_zero, List.set_cons_succ]
  iterate 1
    apply Thr.read rfl
    · intro w' hS
      go_simp
      (repeat rw [if_pos (by omega)])
      try with_reducible rfl
    simp only [Act.put, List.setIfInBounds_toArray, List.set_cons_zero, List.set_cons_succ]
  refine Thr.done ?_
  have c1 : W3.cell? ⟨yb, 1, none⟩ = some (at_ cs 1) := hy3.cell 1 (by omega)
  have c2 : W3.cell? ⟨yb, 2, none⟩ = some (at_ cs 2) := hy3.cell 2 (by omega)
  have c3 : W3.cell? ⟨yb, 3, none⟩ = some (at_ cs 3) := hy3.cell 3 (by omega)
  have c4 : W3.cell? ⟨yb, 4, none⟩ = some (at_ cs 4) := hy3.cell 4 (by omega)
  have c5 : W3.cell? ⟨yb, 5, none⟩ = some (at_ cs 5) := hy3.cell 5 (by omega)
  have c6 : W3.cell? ⟨yb, 6, none⟩ = some (at_ cs 6) := hy3.cell 6 (by omega)
  have c7 : W3.cell? ⟨yb, 7, none⟩ = some (at_ cs 7) := hy3.cell 7 (by omega)
  have c8 : W3.cell? ⟨yb, 8, none⟩ = some (at_ cs 8) := hy3.cell 8 (by omega)
  have c9 : W3.cell? ⟨yb, 9, none⟩ = some (at_ cs 9) := hy3.cell 9 (by omega)
  have c10 : W3.cell? ⟨yb, 10, none⟩ = some (at_ cs 10) := hy3.cell 10 (by omega)
  have c11 : W3.cell? ⟨yb, 11, none⟩ = some (at_ cs 11) := hy3.cell 11 (by omega)
  obtain ⟨ARR, hARR⟩ : ∃ ARR : Array Value, ARR = #[at_ cs 1, at_ cs 2, at_ cs 3, at_ cs 4, at_ cs 5, at_ cs 6, at_ cs 7, at_ cs 8, at_ cs 9, at_ cs 10, at_ cs 11] := ⟨_, rfl⟩
  have hget : ∀ k, k < 11 → ARR[k]? = some (at_ cs (1 + k)) := fun k hk => by rw [hARR]; exact arr_get cs k hk
  have HGET := Lib.hid hget
  have HARR := Lib.hid hARR
  clear hARR hget
  go_wp2_with fail
  rw [← HARR.out]
  clear c1 c2 c3 c4 c5 c6 c7 c8 c9 c10 c11
  go_loopg [34] 11 (fun g s34 wr => ∃ (k : Nat) (cz : Array Value), s34 = .int .i64 (k : Int) ∧ k ≤ 11 ∧ 11 - k ≤ g ∧ YardAt wr zb cz { y with free := upF y.free k } ∧ (∀ i, foot zb cz i → w.heap.size ≤ i) ∧ Below w.heap.size w wr ∧ ∀ i, k ≤ i → i < 11 → at_ cz (1 + i) = nil_)
  case atStart => exact ⟨0, cz0, rfl, by omega, by omega, hzy, hzf, hbw, fun i _ hi => HNIL.out i hi⟩
  case round =>
    clear hzy hzf hbw hy3
    obtain ⟨k, cz, rfl, hk, hgk, hzy, hzf, hbw, hnil⟩ := hrel
    have HNL := Lib.hid hnil
    clear hnil
    have HZF := Lib.hid hzf
    clear hzf
    by_cases hlt : k < 11
    · have hlt' : (k : Int) < 11 := by omega
      have i0 : (0 : Int) ≤ (k : Int) := by omega
      have hyw := hy.below hbw
      obtain ⟨a, c, hf, hn, hc, hg⟩ := own_form (hyw.free k hlt)
      have hidx : ARR[k]? = some (.slice a (y.free k).length c) := by rw [HGET.out k hlt, hf]
      have hfr : OwnN wr (.slice a (y.free k).length c) (y.free k) := by rw [← hf]; exact hyw.free k hlt
      have hix := run_index60 ARR k hlt _ hidx
      have hcl := cloneN (w := wr.drew) hfr (by have := g.len k; omega)
      have HCL := Lib.hid hcl
      clear hf hidx hcl
      have hnk : at_ cz (1 + k) = nil_ := HNL.out k (Nat.le_refl _) hlt
      have HNK := Lib.hid hnk
      have HLEN := Lib.hid (show (y.free k).length = (y.free k).length from rfl)
      clear hnk
      go_wp2_with fail
      refine Thr.drawn [(0, false), (1, false), (2, false), (4, false), (5, false), (3, true), (6, false), (7, true)] 7
        (fun w' => True) (by kernel_rfl) (by kernel_rfl) (fun c a w d v h => by cases d <;> exact h) trivial ?_
      simp only [Thr.pick, Array.reduceGetElem?]
      iterate 5
        apply Thr.read rfl
        · intro w' hS
          go_simp
          (repeat rw [if_pos (by omega)])
          try with_reducible rfl
        simp only [Act.put, List.setIfInBounds_toArray, List.set_cons_zero, List.set_cons_succ]
      apply Thr.act rfl
      intro K hK
      go_simp
      refine HCL.out.mono ?_
      rintro e w2 ⟨v', rfl, hv', hfv, hb2⟩
      have hz2 := (hzy.drewN 1).below hb2
      have c3 := hz2.cell (1 + k) (by omega)
      have e3 := hz2.frozen (1 + k)
      obtain ⟨va, vc, rfl, _, _, _⟩ := own_form hv'
      refine hK _ _ trivial ?_
      clear hK K
      try simp only [Act.put, List.setIfInBounds_toArray, List.set_cons_zero, List.set_cons_succ]
      iterate 1
        apply Thr.read rfl
        · intro w' hS
          go_simp
          (repeat rw [if_pos (by omega)])
          try with_reducible rfl
        simp only [Act.put, List.setIfInBounds_toArray, List.set_cons_zero, List.set_cons_succ]
      apply Thr.last rfl
      intro K hK
      go_simp
      refine hK _ _ ?_
      clear hK K
      have hmv : Moved wr.drew (at_ cz (1 + k)) w2 (.slice va (y.free k).length vc) := by
        refine ⟨⟨hb2.os, hb2.tape, hb2.output, hb2.size, fun i hi _ => hb2.block i hi⟩, ?_⟩
        cases hvo : (Value.slice va (y.free k).length vc).ownBlock with
        | none => rw [HNK.out]; exact .inl rfl
        | some b => exact .inr ⟨b, rfl, hfv b hvo⟩
      obtain ⟨hz4, hst4⟩ := (hzy.drewN 1).put_free k (by omega) hmv hv'
      have hbd : Below w.heap.size w wr.drew := hbw.drew
      obtain ⟨hf5, hb5⟩ := fresh_step hbd HZF.out hst4
      have hz5 : YardAt (w2.setCell ⟨zb, 1 + k, none⟩ (.slice va (y.free k).length vc)) zb (cz.setIfInBounds (1 + k) (.slice va (y.free k).length vc)) { y with free := upF y.free (k + 1) } := by
        rw [← upF_succ]; exact hz4
      have HN5 : Hid (∀ i, k + 1 ≤ i → i < 11 → at_ (cz.setIfInBounds (1 + k) (.slice va (y.free k).length vc)) (1 + i) = nil_) := Lib.hid fun i h1 h2 => by
        rw [at_set_other _ _ _ _ (by omega)]; exact HNL.out i (by omega) h2
      have HF5 := Lib.hid hf5
      clear hf5 c3 e3
      go_wp2_with fail
      rw [show (k : Int) + 1 = ((k + 1 : Nat) : Int) by omega]
      go_roundg (gk - 1)
      case measure => omega
      case rel => exact ⟨k + 1, _, rfl, by omega, by omega, hz5, HF5.out, hb5, HN5.out⟩
    · have hlt' : ¬ ((k : Int) < 11) := by omega
      obtain rfl : k = 11 := by omega
      rw [upF_all g] at hzy
      replace hzy : YardAt wr zb cz y := hzy
      clear HNL HNIL
      go_wp2_with fail
      go_loopg [48] n (fun g s48 wr => ∃ (j : Nat) (cz : Array Value), s48 = .int .i64 (j : Int) ∧ j ≤ n ∧ n - j ≤ g ∧ YardAt wr zb cz (giveAll y G j) ∧ (∀ i, foot zb cz i → w.heap.size ≤ i) ∧ Below w.heap.size w wr)
      case atStart => exact ⟨0, cz, rfl, by omega, by omega, hzy, HZF.out, hbw⟩
      case round =>
        clear hzy hbw HZF
        obtain ⟨j, cz, rfl, hj, hgj, hzy, hzf, hbw⟩ := hrel
        have HZF := Lib.hid hzf
        clear hzf
        by_cases hjl : j < n
        · have hjl' : (j : Int) < (n : Int) := by omega
          have j0 : (0 : Int) ≤ (j : Int) := by omega
          obtain ⟨a, rfl, hi⟩ := HGS.out.resolve_left (by omega)
          have e0 := hi j hjl
          replace e0 := (hbw.cell (World.block_lt_of_cell? w _ e0)).trans e0
          have hgc := give_calls hzy (giveAll_good g G j) (G j)
          have hgs : giveAll y G (j + 1) = (giveY (giveAll y G j) (G j)).1 := rfl
          rw [← hgs] at hgc
          generalize (giveY (giveAll y G j) (G j)).2 = r2 at hgc
          generalize G j = x0 at e0 hgc
          have HGC := Lib.hid hgc
          clear hi hgs hgc
          go_wp2_with fail
          refine HGC.out.mono ?_
          rintro e w5 ⟨rfl, cz5, hz5, hst5⟩
          obtain ⟨hf5, hb5⟩ := fresh_step hbw HZF.out hst5
          have HF5 := Lib.hid hf5
          clear hf5
          go_wp2_with fail
          rw [show (j : Int) + 1 = ((j + 1 : Nat) : Int) by omega]
          go_roundg (gk - 1)
          case measure => omega
          case rel => exact ⟨j + 1, cz5, rfl, by omega, by omega, hz5, HF5.out, hb5⟩
        · have hjl' : ¬ ((j : Int) < (n : Int)) := by omega
          obtain rfl : j = n := by omega
          have hft := fits_calls hzy x
          have HFT := Lib.hid hft
          clear hft
          go_wp2_with fail
          refine HFT.out.mono ?_
          rintro e w5 ⟨rfl, rfl⟩
          go_wp2_with fail
          go_ret
          exact ⟨rfl, hbw⟩

theorem would_nil (x : Int) (gv : Value) (w : World) : Calls Try.prog 28 #[.pointer none, .int .i64 x, gv] w fun e w' => e = .returned (.bool false) ∧ w' = w := by
  go_enter Try.func28, Try.ntmps28
  go_wp2_with fail
  go_ret
  exact ⟨rfl, rfl⟩
end Go.Proofs.Ythmgnfkjkdmdoaa
