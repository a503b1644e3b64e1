/- Contract: Place. -/
import Derived.Test.YtnokmbjgfglaoaaMeth2
set_option linter.unusedSimpArgs false
set_option linter.unusedVariables false
namespace Go.Proofs.Ytnokmbjgfglaoaa
open Go Go.RowKit Go.Lib Go.Sort

def zeroC : Cel := ⟨0, 0, 0, 0⟩
/-- Has no cell of a row a worker of a block? -/
def freeAt (l : List Cel) (row s o : Nat) : Bool := !meetsB (rowF l (row : Int)) (inS s o)
def badArg (m : Mx) (id : Nat) (o : Int) : Prop := id = 0 ∨ o < 0 ∨ (m.n : Int) < o

/-- What Place answers, and makes. -/
structure Placed (m : Mx) (id : Nat) (on : Nat) (r : Cel) (m' : Mx) : Prop where
  same : m'.n = m.n ∧ m'.act = m.act
  r_id : r.id = id
  r_o : r.o = on
  row : r.row < 16
  start : ∃ k, r.s = k * 2 ^ on ∧ ∀ k', k' < k → freeAt m.cells r.row (k' * 2 ^ on) on = false
  inn : r.s < 2 ^ m.n
  free : freeAt m.cells r.row r.s on = true
  rows : ∀ r', r' < r.row → ∀ k', k' * 2 ^ on < 2 ^ m.n → freeAt m.cells r' (k' * 2 ^ on) on = false
  perm : m'.cells.Perm (m.cells ++ [r])
  sort : SortC m'.cells
def PlaceR (m : Mx) (id : Nat) (o : Int) (r : Cel) (e : Int) (m' : Mx) : Prop :=
  (badArg m id o ∧ r = zeroC ∧ e = 2 ∧ m' = m) ∨
  (¬ badArg m id o ∧ (∃ c ∈ m.cells, c.id = id) ∧ r = zeroC ∧ e = 30 ∧ m' = m) ∨
  (¬ badArg m id o ∧ (∀ c ∈ m.cells, c.id ≠ id) ∧ e = 0 ∧ Placed m id o.toNat r m') ∨
  (¬ badArg m id o ∧ (∀ c ∈ m.cells, c.id ≠ id) ∧ r = zeroC ∧ e = 5 ∧ m' = m ∧ ∀ r', r' < 16 → ∀ k', k' * 2 ^ o.toNat < 2 ^ m.n → freeAt m.cells r' (k' * 2 ^ o.toNat) o.toNat = false)
/-- How Place ends. -/
def PlaceE (w : World) (mb : Nat) (v : Value) (m : Mx) (id : Nat) (o : Int) (e : Ending) (w' : World) : Prop :=
  ∃ r ev m' v', e = .returned (.tuple #[.agg (cc r).toArray, .int .i64 ev]) ∧ PlaceR m id o r ev m' ∧ MatAt w' mb v' m' ∧ MStep w mb v w' v'

def zero4 : Array Value := #[.int .u32 0, .int .i64 0, .int .i64 0, .int .i64 0]
theorem res21 (tmps : Array Value) (W : World) (R : Nat) (cs : Array Value) (ev : Value) (h6 : tmps.getD 6 undef = .pointer (some ⟨R, 0, none⟩)) (h7 : tmps.getD 7 undef = ev) (hg : W.heap[R]? = some (.cells cs 34 (0, 0))) (hs : cs.size = 4) :
    (results Try.f21 tmps).run Try.prog W = .ok (.tuple #[.agg cs, ev]) W := by
  have hl := run_loadVar_row W R 34 34 cs (0, 0) _ hg Try.underlying34 rfl (by rw [hs]; exact size34)
  rw [results_cell_tmp rfl]
  simp [h6, h7, asAddr, hl]

theorem place_nil (x : Int) (o : Int) (w : World) : Calls Try.prog 21 #[.pointer none, .int .u32 x, .int .i64 o] w fun e w' => e = .returned (.tuple #[.agg #[.int .u32 0, .int .i64 0, .int .i64 0, .int .i64 0], .int .i64 1]) ∧ Below w.heap.size w w' := by
  go_enter Try.func21, Try.ntmps21
  go_wp2_with fail
  exact bodyPost_ret (res21 _ _ w.heap.size _ _ (by rfl) (by rfl) (box_heap _ _ _) rfl) rfl ⟨rfl, below_alloc' _ _⟩

set_option maxHeartbeats 4000000 in
set_option maxRecDepth 100000 in
theorem place_bad {w : World} {mb : Nat} {v : Value} {m : Mx} (h : MatAt w mb v m) (id : Nat) (o : Int) (hb : badArg m id o) :
    Calls Try.prog 21 #[.pointer (some ⟨mb, 0, none⟩), .int .u32 (id : Int), .int .i64 o] w (PlaceE w mb v m id o) := by
  have hbl : Below w.heap.size w (w.alloc (.cells #[.int .u32 0, .int .i64 0, .int .i64 0, .int .i64 0] 34)) := below_alloc' _ _
  have hend : PlaceE w mb v m id o (.returned (.tuple #[.agg zero4, .int .i64 2])) (w.alloc (.cells #[.int .u32 0, .int .i64 0, .int .i64 0, .int .i64 0] 34)) :=
    ⟨zeroC, 2, m, v, rfl, .inl ⟨hb, rfl, rfl, rfl⟩, h.below hbl, MStep.of_below hbl⟩
  have c0 := (h.below hbl).c0
  have HE := Lib.hid hend
  clear h hbl hend
  unfold badArg at hb
  by_cases h1 : id = 0
  · subst h1
    clear hb
    go_enter Try.func21, Try.ntmps21
    go_wp2_with fail
    exact bodyPost_ret (res21 _ _ w.heap.size _ _ (by rfl) (by rfl) (box_heap _ _ _) rfl) rfl HE.out
  · have g1 : ((id : Int) == 0) = false := by rw [beq_eq_false_iff_ne]; omega
    by_cases h2 : o < 0
    · have g2 : decide (o < 0) = true := by rw [decide_eq_true_eq]; exact h2
      clear hb h1 h2
      go_enter Try.func21, Try.ntmps21
      go_wp2_with fail
      exact bodyPost_ret (res21 _ _ w.heap.size _ _ (by rfl) (by rfl) (box_heap _ _ _) rfl) rfl HE.out
    · have g2 : decide (o < 0) = false := by rw [decide_eq_false_iff_not]; exact h2
      have g3 : decide (o > (m.n : Int)) = true := by rw [decide_eq_true_eq]; omega
      clear hb h1 h2
      go_enter Try.func21, Try.ntmps21
      go_wp2_with fail
      exact bodyPost_ret (res21 _ _ w.heap.size _ _ (by rfl) (by rfl) (box_heap _ _ _) rfl) rfl HE.out

set_option maxHeartbeats 8000000 in
set_option maxRecDepth 100000 in
theorem place_twice {w : World} {mb : Nat} {v : Value} {m : Mx} (h : MatAt w mb v m) (hl : m.cells.length ≤ 1000) (id : Nat) (o : Int) (hb : ¬ badArg m id o) (hid : ∃ c ∈ m.cells, c.id = id) :
    Calls Try.prog 21 #[.pointer (some ⟨mb, 0, none⟩), .int .u32 (id : Int), .int .i64 o] w (PlaceE w mb v m id o) := by
  obtain ⟨R, hR⟩ : ∃ R, R = w.heap.size := ⟨_, rfl⟩
  obtain ⟨W1, hW1⟩ : ∃ W1, W1 = w.alloc (.cells zero4 34) := ⟨_, rfl⟩
  have hbl : Below w.heap.size w W1 := by rw [hW1]; exact below_alloc' _ _
  have hr1 : W1.heap[R]? = some (.cells zero4 34 (0, 0)) := by rw [hW1, hR]; exact box_heap _ _ _
  have h1 := h.below hbl
  have c0 := h1.c0
  have HA := Lib.hid (at_calls h1 (by omega) id)
  have hi : ∃ k : Nat, atI m.cells id = (k : Int) := by
    rcases atI_cases m.cells id with ⟨_, hn⟩ | ⟨k, c, _, _, hk⟩
    · obtain ⟨c, hc, he⟩ := hid
      exact absurd he (hn c hc)
    · exact ⟨k, hk⟩
  obtain ⟨k, hk⟩ := hi
  rw [hk] at HA
  have HB := Lib.hid (And.intro hb hid)
  unfold badArg at hb
  have g1 : ((id : Int) == 0) = false := by rw [beq_eq_false_iff_ne]; omega
  have g2 : decide (o < 0) = false := by rw [decide_eq_false_iff_not]; omega
  have g3 : decide (o > (m.n : Int)) = false := by rw [decide_eq_false_iff_not]; omega
  have k0 : (0 : Int) ≤ (k : Int) := by omega
  have HM := Lib.hid h
  have HR := Lib.hid hR
  have HW := Lib.hid hW1
  have HBL := Lib.hid hbl
  have HR1 := Lib.hid hr1
  clear h hl hid hR hW1 hbl h1 hk hb hr1
  go_enter Try.func21, Try.ntmps21
  go_upto_region 1 with (fail)
  show Code.wp _ _ _ _ (w.alloc (.cells zero4 34))
  rw [← HR.out, ← HW.out]
  go_wp2_with fail
  refine HA.out.mono ?_
  rintro e w2 ⟨rfl, hb2⟩
  have hr2 : w2.heap[R]? = some (.cells zero4 34 (0, 0)) := (hb2.block R (Array.getElem?_eq_some_iff.1 HR1.out).1).trans HR1.out
  have HB2 := Lib.hid (HBL.out.trans (hb2.mono HBL.out.size))
  clear HA hb2 c0
  have HQ := Lib.hid (And.intro (show (Try.prog.info? 34).map (·.size) = some (#[.int .u32 0, .int .i64 0, .int .i64 0, .int .i64 0] : Array Value).size from size34) (And.intro (show zero4.size = (#[.int .u32 0, .int .i64 0, .int .i64 0, .int .i64 0] : Array Value).size from rfl) (show (#[.int .u32 0, .int .i64 0, .int .i64 0, .int .i64 0] : Array Value).all (·.oneCell') = true from by rw [Array.all_eq_true_iff_forall_mem]; intro u hu; simp at hu; rcases hu with rfl | rfl <;> rfl)))
  go_wp2_with (with_reducible refine wpList_store_row rfl 34 _ _ rfl _ _ rfl rfl _ _ hr2 HQ.out.1 HQ.out.2.1 HQ.out.2.2 ?_)
  have hs : w2.setRow R zero4 = w2 := setRow_self _ _ _ _ _ hr2
  refine bodyPost_ret (res21 _ _ R _ _ (by rfl) (by rfl) (by rw [show (#[.int .u32 0, .int .i64 0, .int .i64 0, .int .i64 0] : Array Value) = zero4 from rfl, hs]; exact hr2) rfl) rfl ?_
  rw [show (#[.int .u32 0, .int .i64 0, .int .i64 0, .int .i64 0] : Array Value) = zero4 from rfl, hs]
  exact ⟨zeroC, 30, m, v, rfl, .inr (.inl ⟨HB.out.1, HB.out.2, rfl, rfl, rfl⟩), HM.out.below HB2.out, MStep.of_below HB2.out⟩

theorem bad_iff {m : Mx} {id : Nat} {o : Int} (hb : ¬ badArg m id o) : id ≠ 0 ∧ 0 ≤ o ∧ o ≤ (m.n : Int) := by
  unfold badArg at hb
  omega

set_option maxHeartbeats 16000000 in
set_option maxRecDepth 100000 in
theorem place_go {w : World} {mb : Nat} {v : Value} {m : Mx} (h : MatAt w mb v m) (hl : m.cells.length ≤ 1000) (hfit : Fit m.cells) (hn : m.n ≤ 10) (id : Nat) (o : Int) (hb : ¬ badArg m id o) (hid : ∀ c ∈ m.cells, c.id ≠ id) :
    Calls Try.prog 21 #[.pointer (some ⟨mb, 0, none⟩), .int .u32 (id : Int), .int .i64 o] w (PlaceE w mb v m id o) := by
  obtain ⟨R, hR⟩ : ∃ R, R = w.heap.size := ⟨_, rfl⟩
  obtain ⟨W1, hW1⟩ : ∃ W1, W1 = w.alloc (.cells zero4 34) := ⟨_, rfl⟩
  have hbl : Below w.heap.size w W1 := by rw [hW1]; exact below_alloc' _ _
  have hr1 : W1.heap[R]? = some (.cells zero4 34 (0, 0)) := by rw [hW1, hR]; exact box_heap _ _ _
  have h1 := h.below hbl
  have hA := at_calls h1 (by omega) id
  have hi : atI m.cells id = -1 := by
    rcases atI_cases m.cells id with ⟨hi, _⟩ | ⟨k, c, hk, he, _⟩
    · exact hi
    · exact absurd he (hid c (List.mem_of_getElem? hk))
  rw [hi] at hA
  have HA := Lib.hid hA
  obtain ⟨hid0, ho0, hon⟩ := bad_iff hb
  obtain ⟨on, hoo⟩ : ∃ on : Nat, (on : Int) = o := ⟨o.toNat, by omega⟩
  obtain ⟨P, hP⟩ : ∃ P, P = 2 ^ on := ⟨_, rfl⟩
  obtain ⟨N, hN⟩ : ∃ N, N = 2 ^ m.n := ⟨_, rfl⟩
  have hon2 : on ≤ m.n := by omega
  have hP1 : 1 ≤ P := by rw [hP]; exact Nat.two_pow_pos on
  have hP2 : P ≤ 1024 := by rw [hP]; exact Nat.pow_le_pow_right (by omega) (show on ≤ 10 by omega)
  have hN2 : N ≤ 1024 := by rw [hN]; exact Nat.pow_le_pow_right (by omega) hn
  have hPN : ∃ q, N = q * P := ⟨2 ^ (m.n - on), by rw [hN, hP, ← Nat.pow_add]; congr 1; omega⟩
  have hfitS : ∀ k, k * P < N → k * P + 2 ^ on ≤ 1024 := fun k hk => by
    obtain ⟨q, hq⟩ := hPN
    rw [← hP]
    have : k < q := by
      rw [hq] at hk
      exact Nat.lt_of_mul_lt_mul_right hk
    have : (k + 1) * P ≤ q * P := Nat.mul_le_mul_right _ this
    rw [Nat.add_mul, Nat.one_mul] at this
    omega
  have hsho := shl_one on P (by omega) hP
  have hshn := shl_one m.n N (by omega) hN
  have n0 : decide ((m.n : Int) < 0) = false := by rw [decide_eq_false_iff_not]; omega
  have hc0 := h1.c0
  have g1 : ((id : Int) == 0) = false := by rw [beq_eq_false_iff_ne]; omega
  have g2 : decide (o < 0) = false := by rw [decide_eq_false_iff_not]; omega
  have g3 : decide (o > (m.n : Int)) = false := by rw [decide_eq_false_iff_not]; omega
  obtain ⟨nb, hnb⟩ : ∃ nb : Int, (m.n : Int) = nb := ⟨_, rfl⟩
  rw [hnb] at hshn n0 hc0 g3
  rw [hoo] at hsho
  have HB := Lib.hid hb
  have HID := Lib.hid hid
  have HM := Lib.hid h
  have HR := Lib.hid hR
  have HW := Lib.hid hW1
  have HBL := Lib.hid hbl
  have HR1 := Lib.hid hr1
  have HNB := Lib.hid hnb
  have HOO := Lib.hid hoo
  have HPN := Lib.hid (And.intro hP hN)
  have HFS := Lib.hid hfitS
  have HFIT := Lib.hid hfit
  have HL := Lib.hid hl
  have HON := Lib.hid (And.intro hon2 hn)
  clear h hl hid hR hW1 hbl h1 hb hr1 hnb hoo hP hN hPN hfitS hfit hA hi hid0 ho0 hon hon2 hn
  go_enter Try.func21, Try.ntmps21
  go_upto_region 1 with (fail)
  show Code.wp _ _ _ _ (w.alloc (.cells zero4 34))
  rw [← HR.out, ← HW.out]
  go_wp2_with fail
  refine HA.out.mono ?_
  rintro e w2 ⟨rfl, hb2⟩
  have hr2 : w2.heap[R]? = some (.cells zero4 34 (0, 0)) := (hb2.block R (Array.getElem?_eq_some_iff.1 HR1.out).1).trans HR1.out
  have hbl2 := HBL.out.trans (hb2.mono HBL.out.size)
  have HR2 := Lib.hid (And.intro hr2 hbl2)
  clear HA hb2 hc0 hr2 hbl2 g1 g2 g3
  go_wp2_with fail
  go_loopg [39] 17 (fun q s39 wr => ∃ r : Nat, s39 = .int .i64 (r : Int) ∧ r ≤ 16 ∧ 16 - r ≤ q ∧ Below w.heap.size w wr ∧ wr.heap[R]? = some (.cells zero4 34 (0, 0)) ∧ ∀ r', r' < r → ∀ k', k' * P < N → freeAt m.cells r' (k' * P) on = false)
  case atStart => exact ⟨0, rfl, by omega, by omega, HR2.out.2, HR2.out.1, fun r' h => absurd h (Nat.not_lt_zero _)⟩
  case round =>
    clear HR2
    obtain ⟨r, rfl, hr16, hrg, hbl, hrz, hall⟩ := hrel
    have HALL := Lib.hid hall
    have HBZ := Lib.hid (And.intro hbl hrz)
    by_cases hlt : r < 16
    · have hlt0 := hlt
      have hrow := row_calls (HM.out.below hbl) HFIT.out (by have := HL.out; omega) (r : Int)
      obtain ⟨F, hF⟩ : ∃ F, F = rowF m.cells (r : Int) := ⟨_, rfl⟩
      rw [← hF] at hrow
      have HROW := Lib.hid hrow
      have HF := Lib.hid hF
      clear hall hbl hrz hrow hF
      go_wp2_with fail
      refine HROW.out.mono ?_
      rintro e w3 ⟨rfl, hb3⟩
      obtain ⟨CF, hCF⟩ : ∃ CF, CF = colsA F := ⟨_, rfl⟩
      rw [← hCF]
      obtain ⟨C, hC⟩ : ∃ C, C = w3.heap.size := ⟨_, rfl⟩
      have hz0 := box_heap w3 zero16 65
      have hi0 : (Try.prog.info? 65).map (·.size) = some CF.size := by rw [hCF]; exact info65 F
      have hi1 : zero16.size = CF.size := by rw [hCF, colsA_size]; rfl
      have hi2 : CF.all (·.oneCell') = true := by rw [hCF]; exact colsA_one F
      obtain ⟨W3, hW3⟩ : ∃ W3, W3 = (w3.alloc (.cells zero16 65)).setRow C CF := ⟨_, rfl⟩
      have hbA : Below w3.heap.size w3 W3 := by rw [hW3]; exact below_setRow (below_alloc' _ _) (by omega) _
      have hcc : W3.heap[C]? = some (.cells CF 65 (0, 0)) := by rw [hW3]; exact setRow_heap _ _ _ _ _ _ (by rw [hC]; exact hz0)
      have hb13 : Below wr.heap.size wr W3 := hb3.trans (hbA.mono hb3.size)
      have hblW : Below w.heap.size w W3 := HBZ.out.1.trans (hb13.mono HBZ.out.1.size)
      have hrzW : W3.heap[R]? = some (.cells zero4 34 (0, 0)) := (hb13.block R (Array.getElem?_eq_some_iff.1 HBZ.out.2).1).trans HBZ.out.2
      have hRC : R < C := by
        have := (Array.getElem?_eq_some_iff.1 HBZ.out.2).1
        have := hb3.size
        omega
      have HCF := Lib.hid hCF
      have HC := Lib.hid hC
      have HW3 := Lib.hid hW3
      have H3 := Lib.hid (And.intro hblW (And.intro hrzW hcc))
      have HI := Lib.hid (And.intro hi0 (And.intro hi1 hi2))
      unfold zero16 at hz0 HI HW3
      rw [← HC.out] at hz0
      clear HROW hb3 hCF hC hW3 hbA hcc hb13 hblW hrzW hi0 hi1 hi2
      go_upto_region 11 with (first | (rw [← HC.out]; with_reducible refine wpList_store_row rfl 65 _ _ rfl _ _ rfl rfl _ _ hz0 HI.out.1 HI.out.2.1 HI.out.2.2 ?_))
      rw [← HW3.out]
      clear hz0
      go_wp2_with fail
      obtain ⟨go, rfl⟩ : ∃ go, go = gk := ⟨_, rfl⟩
      obtain ⟨wo, rfl⟩ : ∃ wo : World, wo = wr := ⟨_, rfl⟩
      go_loopg [10] 1025 (fun q s10 wr => ∃ k : Nat, s10 = .int .i64 ((k * P : Nat) : Int) ∧ k * P < N + P ∧ N - k * P ≤ q ∧ Below w.heap.size w wr ∧ wr.heap[R]? = some (.cells zero4 34 (0, 0)) ∧ wr.heap[C]? = some (.cells CF 65 (0, 0)) ∧ ∀ k', k' < k → freeAt m.cells r (k' * P) on = false)
      case atStart => exact ⟨0, by simp, by omega, by omega, H3.out.1, H3.out.2.1, H3.out.2.2, fun k' h => absurd h (Nat.not_lt_zero _)⟩
      case round =>
        clear H3
        obtain ⟨k, rfl, hkN, hkg, hbl, hrz, hcc, hall⟩ := hrel
        have H4 := Lib.hid (And.intro hbl (And.intro hrz (And.intro hcc hall)))
        obtain ⟨S, hS⟩ : ∃ S, S = k * P := ⟨_, rfl⟩
        rw [← hS] at hkN hkg ⊢
        have hm0 : wr.cell? ⟨mb, 0, none⟩ = some (.int .i64 nb) := by rw [← HNB.out]; exact (HM.out.below hbl).c0
        have HS := Lib.hid hS
        by_cases hlt : S < N
        · have g1 : decide ((S : Int) < (N : Int)) = true := by rw [decide_eq_true_eq]; omega
          have hfs := HFS.out k (by rw [← hS]; exact hlt)
          rw [← hS] at hfs
          have hoc := fun W => of_calls S on (by have := HON.out; omega) hfs W
          rw [HOO.out] at hoc
          have hme := fun W => meets_calls F (inS S on) W
          rw [← HCF.out] at hme
          obtain ⟨CB, hCB⟩ : ∃ CB, CB = colsA (inS S on) := ⟨_, rfl⟩
          rw [← hCB] at hoc
          simp only [← hCB] at hme
          obtain ⟨M, hM⟩ : ∃ M, M = meetsB F (inS S on) := ⟨_, rfl⟩
          simp only [← hM] at hme
          have HOC := Lib.hid hoc
          have HME := Lib.hid hme
          have HMM := Lib.hid hM
          have HCI : Hid ((Try.prog.info? 65).map (·.size) = some CF.size) := Lib.hid (by rw [HCF.out]; exact info65 F)
          obtain ⟨X, hX⟩ : ∃ X, X = wr.heap.size := ⟨_, rfl⟩
          obtain ⟨WX, hWX⟩ : ∃ WX, WX = wr.alloc (.cells #[.int .i64 (S : Int), .int .i64 o] 32) := ⟨_, rfl⟩
          have hbW : Below wr.heap.size wr WX := by rw [hWX]; exact below_alloc' _ _
          have hx2 : WX.heap[X]? = some (.cells #[.int .i64 (S : Int), .int .i64 o] 32 (0, 0)) := by rw [hWX, hX]; exact box_heap _ _ _
          have hc2 : WX.heap[C]? = some (.cells CF 65 (0, 0)) := by rw [hbW.block _ (Array.getElem?_eq_some_iff.1 hcc).1]; exact hcc
          have HX := Lib.hid hX
          have HWX := Lib.hid hWX
          have HBW := Lib.hid hbW
          clear hbl hrz hall hcc hS hoc hme hCB hM hX hWX hbW hfs
          go_upto_region 15 with (fail)
          rw [← HWX.out, ← HX.out]
          clear hm0
          refine Thr.drawn [(0, false), (1, false), (2, true), (3, true), (4, false)] 5
            (fun w' => w'.heap[X]? = some (.cells #[.int .i64 (S : Int), .int .i64 o] 32 (0, 0)) ∧ w'.heap[C]? = some (.cells CF 65 (0, 0))) (by kernel_rfl) (by kernel_rfl) (fun c a w d v h => by cases d <;> exact h) ⟨hx2, hc2⟩ ?_
          simp only [Thr.pick, Array.reduceGetElem?]
          refine Thr.read rfl (fun w' hS => exec_load_row rfl rfl hS.2 Try.underlying65 rfl HCI.out) ?_
          simp only [Act.put, List.setIfInBounds_toArray, List.set_cons_zero, List.set_cons_succ]
          apply Thr.read rfl
          · intro w' hS
            have s2 : w'.cell? ⟨X, 0, none⟩ = some (.int .i64 (S : Int)) := by simp [World.cell?, hS.1]
            have s3 : w'.cell? ⟨X, 1, none⟩ = some (.int .i64 o) := by simp [World.cell?, hS.1]
            go_simp
            try with_reducible rfl
          simp only [Act.put, List.setIfInBounds_toArray, List.set_cons_zero, List.set_cons_succ]
          apply Thr.act rfl
          intro K hK
          go_simp
          refine (HOC.out _).mono ?_
          rintro e w4 ⟨rfl, hb4⟩
          have hW4 : Below WX.heap.size WX w4 := (below_drewN' WX 1).trans hb4
          replace hx2 := (hW4.block X (Array.getElem?_eq_some_iff.1 hx2).1).trans hx2
          replace hc2 := (hW4.block C (Array.getElem?_eq_some_iff.1 hc2).1).trans hc2
          refine hK _ _ ⟨hx2, hc2⟩ ?_
          clear hK K hb4
          try simp only [Act.put, List.setIfInBounds_toArray, List.set_cons_zero, List.set_cons_succ]
          apply Thr.act rfl
          intro K hK
          go_simp
          refine (HME.out _).mono ?_
          rintro e w5 ⟨rfl, hb5⟩
          replace hx2 := (hb5.block X (Array.getElem?_eq_some_iff.1 hx2).1).trans hx2
          replace hc2 := (hb5.block C (Array.getElem?_eq_some_iff.1 hc2).1).trans hc2
          refine hK _ _ ⟨hx2, hc2⟩ ?_
          clear hK K
          try simp only [Act.put, List.setIfInBounds_toArray, List.set_cons_zero, List.set_cons_succ]
          apply Thr.read rfl
          · intro w' hS
            go_simp
            try with_reducible rfl
          simp only [Act.put, List.setIfInBounds_toArray, List.set_cons_zero, List.set_cons_succ]
          refine Thr.done ?_
          have hW5 : Below wr.heap.size wr w5 := HBW.out.trans ((hW4.trans (hb5.mono hW4.size)).mono HBW.out.size)
          have hbl5 : Below w.heap.size w w5 := H4.out.1.trans (hW5.mono H4.out.1.size)
          have hrz5 := (hW5.block R (Array.getElem?_eq_some_iff.1 H4.out.2.1).1).trans H4.out.2.1
          have H5 := Lib.hid (And.intro hbl5 (And.intro hrz5 (And.intro hc2 hx2)))
          clear hW4 hb5 hx2 hc2 hW5 hbl5 hrz5 HBW
          cases M with
          | true =>
            have hno : freeAt m.cells r (k * P) on = false := by
              unfold freeAt
              rw [← HF.out, ← HS.out, ← HMM.out]; rfl
            have HNO := Lib.hid hno
            clear hno
            go_wp2_with fail
            obtain ⟨S2, hS2⟩ : ∃ S2, S2 = (k + 1) * P := ⟨_, rfl⟩
            rw [show (S : Int) + (P : Int) = (S2 : Int) by rw [hS2, Nat.add_mul, Nat.one_mul, ← HS.out]; omega]
            have HS2 := Lib.hid hS2
            clear hS2
            go_roundg (gk - 1)
            case measure => omega
            case rel =>
              refine ⟨k + 1, by rw [← HS2.out], ?_, ?_, H5.out.1, H5.out.2.1, H5.out.2.2.1, fun k' hk' => ?_⟩
              · rw [Nat.add_mul, Nat.one_mul, ← HS.out]; omega
              · rw [Nat.add_mul, Nat.one_mul, ← HS.out]; omega
              · by_cases e : k' = k
                · rw [e]; exact HNO.out
                · exact H4.out.2.2.2 k' (by omega)
          | false =>
            obtain ⟨Y, hY⟩ : ∃ Y, Y = w5.heap.size := ⟨_, rfl⟩
            obtain ⟨WY, hWY⟩ : ∃ WY, WY = w5.alloc (.cells #[.int .u32 (id : Int), .int .i64 (r : Int), .int .i64 (S : Int), .int .i64 o] 34) := ⟨_, rfl⟩
            have hbY : Below w5.heap.size w5 WY := by rw [hWY]; exact below_alloc' _ _
            have hy : WY.heap[Y]? = some (.cells #[.int .u32 (id : Int), .int .i64 (r : Int), .int .i64 (S : Int), .int .i64 o] 34 (0, 0)) := by rw [hWY, hY]; exact box_heap _ _ _
            have hbwY : Below w.heap.size w WY := H5.out.1.trans (hbY.mono H5.out.1.size)
            have hmY := HM.out.below hbwY
            have hrzY := (hbY.block R (Array.getElem?_eq_some_iff.1 H5.out.2.1).1).trans H5.out.2.1
            have hx5 := H5.out.2.2.2
            have hmw : mb < w.heap.size := HM.out.lt
            have hYw : w.heap.size ≤ Y := by rw [hY]; exact H5.out.1.size
            have hRY : R ≠ Y := by have := (Array.getElem?_eq_some_iff.1 H5.out.2.1).1; omega
            obtain ⟨a, cap, hv, hna, hnc, hga⟩ := own_form hmY.own
            have c1 := hmY.c1
            rw [hv] at c1
            have x0 : w5.cell? ⟨X, 0, none⟩ = some (.int .i64 (S : Int)) := by simp [World.cell?, hx5]
            have x1 : w5.cell? ⟨X, 1, none⟩ = some (.int .i64 o) := by simp [World.cell?, hx5]
            have y0 : WY.cell? ⟨Y, 0, none⟩ = some (.int .u32 (id : Int)) := by simp [World.cell?, hy]
            have y1 : WY.cell? ⟨Y, 1, none⟩ = some (.int .i64 (r : Int)) := by simp [World.cell?, hy]
            have y2 : WY.cell? ⟨Y, 2, none⟩ = some (.int .i64 (S : Int)) := by simp [World.cell?, hy]
            have y3 : WY.cell? ⟨Y, 3, none⟩ = some (.int .i64 o) := by simp [World.cell?, hy]
            have HY := Lib.hid hY
            have HWY := Lib.hid hWY
            have HV := Lib.hid hv
            have H6 := Lib.hid (And.intro hbwY (And.intro hmY (And.intro hrzY hy)))
            clear hY hWY hbY hbwY hmY hrzY hx5 hv hna hnc hga hy
            go_upto_region 17 with (fail)
            rw [← HWY.out, ← HY.out]
            clear x0 x1
            refine Thr.drawn [(0, false), (1, false), (2, false), (3, false), (4, false), (5, false), (6, true), (7, true), (8, false), (9, false), (10, true)] 10
              (fun w' => w'.cell? ⟨mb, 1, none⟩ = some (.slice a m.cells.length cap) ∧ w'.cell? ⟨Y, 0, none⟩ = some (.int .u32 (id : Int)) ∧ w'.cell? ⟨Y, 1, none⟩ = some (.int .i64 (r : Int)) ∧ w'.cell? ⟨Y, 2, none⟩ = some (.int .i64 (S : Int)) ∧ w'.cell? ⟨Y, 3, none⟩ = some (.int .i64 o)) (by kernel_rfl) (by kernel_rfl) (fun c a w d v h => by cases d <;> exact h) ⟨c1, y0, y1, y2, y3⟩ ?_
            simp only [Thr.pick, Array.reduceGetElem?]
            iterate 6
              apply Thr.read rfl
              · intro w' hS
                go_simp
                try with_reducible rfl
              simp only [Act.put, List.setIfInBounds_toArray, List.set_cons_zero, List.set_cons_succ]
            apply Thr.act rfl
            intro K hK
            go_simp
            obtain ⟨Z, hZ⟩ : ∃ Z, Z = WY.heap.size := ⟨_, rfl⟩
            obtain ⟨WZ, hWZ⟩ : ∃ WZ, WZ = (WY.alloc (.cells #[.int .u32 (id : Int), .int .i64 (r : Int), .int .i64 (S : Int), .int .i64 o] 34)).drew := ⟨_, rfl⟩
            have hbZ : Below WY.heap.size WY WZ := by rw [hWZ]; exact (below_alloc' WY _).trans ⟨rfl, rfl, rfl, Nat.le_refl _, fun _ _ => rfl⟩
            have hz : WZ.heap[Z]? = some (.cells #[.int .u32 (id : Int), .int .i64 (r : Int), .int .i64 (S : Int), .int .i64 o] 34 (0, 0)) := by rw [hWZ, hZ]; exact box_heap _ _ _
            have hmZ := H6.out.2.1.below hbZ
            have hbwZ : Below w.heap.size w WZ := H6.out.1.trans (hbZ.mono H6.out.1.size)
            have hrzZ := (hbZ.block R (Array.getElem?_eq_some_iff.1 H6.out.2.2.1).1).trans H6.out.2.2.1
            have hyZ := (hbZ.block Y (Array.getElem?_eq_some_iff.1 H6.out.2.2.2).1).trans H6.out.2.2.2
            have hYlt := (Array.getElem?_eq_some_iff.1 H6.out.2.2.2).1
            rw [HV.out] at hmZ
            replace c1 : WZ.cell? ⟨mb, 1, none⟩ = some (.slice a m.cells.length cap) := hmZ.c1
            replace y0 : WZ.cell? ⟨Y, 0, none⟩ = some (.int .u32 (id : Int)) := by simp [World.cell?, hyZ]
            replace y1 : WZ.cell? ⟨Y, 1, none⟩ = some (.int .i64 (r : Int)) := by simp [World.cell?, hyZ]
            replace y2 : WZ.cell? ⟨Y, 2, none⟩ = some (.int .i64 (S : Int)) := by simp [World.cell?, hyZ]
            replace y3 : WZ.cell? ⟨Y, 3, none⟩ = some (.int .i64 o) := by simp [World.cell?, hyZ]
            rw [← hWZ, ← hZ]
            refine hK _ _ ⟨c1, y0, y1, y2, y3⟩ ?_
            clear hK K
            try simp only [Act.put, List.setIfInBounds_toArray, List.set_cons_zero, List.set_cons_succ]
            obtain ⟨i0, hi0, hz0', hz1, hz2⟩ := info_parts info34
            have hnews : ∀ j u, ([.int .u32 (id : Int), .int .i64 (r : Int), .int .i64 (S : Int), .int .i64 o] : List Value)[j]? = some u → WZ.cell? ((⟨Z, 0, none⟩ : Addr).add j) = some u := fun j u hu => by
              rw [Addr.add_lit, Nat.zero_add]
              simp only [World.cell?, hz]
              match j, hu with
              | 0, hu => simpa using hu
              | 1, hu => simpa using hu
              | 2, hu => simpa using hu
              | 3, hu => simpa using hu
            have hone : ∀ u ∈ ([.int .u32 (id : Int), .int .i64 (r : Int), .int .i64 (S : Int), .int .i64 o] : List Value), u.oneCell' = true := by
              intro u hu; simp at hu; rcases hu with rfl | rfl | rfl | rfl <;> rfl
            have hL := HL.out
            obtain ⟨v', W6, hrun, hown6, hgr6, _⟩ := run_append_own (P := Try.prog) WZ 0 25 25 34 i0 (.agg #[.int .u32 0, .int .i64 0, .int .i64 0, .int .i64 0]) 4 32 Try.underlying25 hi0 hz0' hz1 hz2 rfl (by omega)
              (.slice a m.cells.length cap) m.cells.length (cv m.cells) hmZ.own ⟨Z, 0, none⟩ 1 1 [.int .u32 (id : Int), .int .i64 (r : Int), .int .i64 (S : Int), .int .i64 o] rfl hnews hone (by simp [maxLen]; omega) (by omega) (by omega)
            have hat := append_at (P := Try.prog) Try.underlying25 hi0 hz0' (n := m.cells.length) (xs := cv m.cells) (by rw [hz1]; exact hmZ.own) (a := ⟨Z, 0, none⟩) (m := 1) (c := 1) (news := [.int .u32 (id : Int), .int .i64 (r : Int), .int .i64 (S : Int), .int .i64 o]) (by rw [hz1]; rfl) hnews hone (by omega) (by simp [maxLen]; omega) (by rw [hz2]; omega) hrun
            have hmv : Moved WZ (.slice a m.cells.length cap) W6 v' := ⟨hgr6, hat.imp (fun x => x) fun e => ⟨_, e, Nat.le_refl _⟩⟩
            have hnew : OwnC W6 v' (m.cells ++ [⟨id, r, S, on⟩]) := by
              unfold OwnC
              rw [cv_append, List.length_append]
              have e : cv [⟨id, r, S, on⟩] = [.int .u32 (id : Int), .int .i64 (r : Int), .int .i64 (S : Int), .int .i64 o] := by rw [← HOO.out]; rfl
              rw [e]
              exact hown6
            obtain ⟨hm7, hs7⟩ := hmZ.put hmv hnew
            obtain ⟨a', cap', hv', _, _, _⟩ := own_form hnew
            have hvw : ∀ b, (Value.slice a m.cells.length cap).ownBlock = some b → b ≠ Y ∧ b ≠ R ∧ b ≠ mb := fun b hb => by
              have h1 := HM.out.own
              rw [HV.out] at h1
              have := (h1.lt b hb).2
              refine ⟨by omega, by have := HR.out; omega, fun e => hmZ.off (by rw [hb, e])⟩
            have hkY : W6.heap[Y]? = _ := (hgr6.block Y (by have := hbZ.size; omega) (fun e => (hvw Y e.symm).1 rfl)).trans hyZ
            have hkR : W6.heap[R]? = _ := (hgr6.block R (by have := (Array.getElem?_eq_some_iff.1 hrzZ).1; omega) (fun e => (hvw R e.symm).2.1 rfl)).trans hrzZ
            have hkm : W6.heap[mb]? = _ := (hgr6.block mb hmZ.lt (fun e => (hvw mb e.symm).2.2 rfl)).trans hmZ.heap
            have d1 : W6.cell? ⟨mb, 1, none⟩ = some (.slice a m.cells.length cap) := by simp [World.cell?, hkm]
            have df : W6.frozen? ⟨mb, 1, none⟩ = false := by simp [World.frozen?, hkm]
            have z0 : W6.cell? ⟨Y, 0, none⟩ = some (.int .u32 (id : Int)) := by simp [World.cell?, hkY]
            have z1 : W6.cell? ⟨Y, 1, none⟩ = some (.int .i64 (r : Int)) := by simp [World.cell?, hkY]
            have z2 : W6.cell? ⟨Y, 2, none⟩ = some (.int .i64 (S : Int)) := by simp [World.cell?, hkY]
            have z3 : W6.cell? ⟨Y, 3, none⟩ = some (.int .i64 o) := by simp [World.cell?, hkY]
            have hoY : v'.ownBlock ≠ some Y := fun e => by
              rcases hat with h | h
              · exact (hvw Y (h.symm.trans e)).1 rfl
              · rw [e] at h; injection h with h; have := hbZ.size; omega
            have hoR : v'.ownBlock ≠ some R := fun e => by
              rcases hat with h | h
              · exact (hvw R (h.symm.trans e)).2.1 rfl
              · rw [e] at h; injection h with h; have := (Array.getElem?_eq_some_iff.1 hrzZ).1; omega
            have HRUN := Lib.hid hrun
            have H7 := Lib.hid (And.intro hm7 (And.intro hs7 (And.intro hkY (And.intro hkR (And.intro hbwZ (And.intro hgr6 (And.intro hoY hoR)))))))
            clear hi0 hz0' hz1 hz2 hnews hone hL hrun hat hmv hnew hm7 hs7 hvw hkY hkR hkm hown6 hgr6 hoY hoR hz hmZ hbZ hrzZ hyZ c1 y0 y1 y2 y3 hYlt
            rw [hv', show (m.cells ++ [(⟨id, r, S, on⟩ : Cel)]).length = m.cells.length + 1 by simp] at HRUN H7
            clear hv'
            apply Thr.act rfl
            intro K hK
            refine Row.wp_append HRUN.out rfl rfl rfl ?_
            refine hK _ _ ⟨d1, z0, z1, z2, z3⟩ ?_
            clear hK K
            try simp only [Act.put, List.setIfInBounds_toArray, List.set_cons_zero, List.set_cons_succ]
            iterate 2
              apply Thr.read rfl
              · intro w' hS
                go_simp
                try with_reducible rfl
              simp only [Act.put, List.setIfInBounds_toArray, List.set_cons_zero, List.set_cons_succ]
            refine Thr.last rfl ?_
            intro K hK
            go_simp
            refine hK _ _ ?_
            clear hK K d1 df z0 z1 z2 z3
            obtain ⟨W7, hW7⟩ : ∃ W7, W7 = W6.setCell ⟨mb, 1, none⟩ (.slice a' (m.cells.length + 1) cap') := ⟨_, rfl⟩
            obtain ⟨hm7, hs7, hkY, hkR, hbwZ, hgr6, hoY, hoR⟩ := H7.out
            have hYm : Y ≠ mb := by omega
            have hRm : R ≠ mb := by have := HR.out; omega
            have hY7 : W7.heap[Y]? = some (.cells #[.int .u32 (id : Int), .int .i64 (r : Int), .int .i64 (S : Int), .int .i64 o] 34 (0, 0)) := by rw [hW7, Below.heap_setCell _ _ _ _ hYm]; exact hkY
            have hR7 : W7.heap[R]? = some (.cells zero4 34 (0, 0)) := by rw [hW7, Below.heap_setCell _ _ _ _ hRm]; exact hkR
            rw [← hW7] at hm7 hs7
            have hst7 : MStep w mb v W7 (.slice a' (m.cells.length + 1) cap') := by
              have := MStep.of_below (mb := mb) (v := v) hbwZ
              rw [HV.out] at this ⊢
              exact this.trans hs7
            have HSO := Lib.hid (sortm_calls hm7 (by show (m.cells ++ [(⟨id, r, S, on⟩ : Cel)]).length ≤ _; have := HL.out; simp; omega))
            have H8 := Lib.hid (And.intro hY7 (And.intro hR7 (And.intro hst7 (And.intro hoY hoR))))
            have HW7 := Lib.hid hW7
            clear hm7 hs7 hkY hkR hbwZ hgr6 hY7 hR7 hst7 hW7 hoY hoR H7 HRUN
            go_upto_region 18 with (fail)
            rw [← HW7.out]
            go_wp2_with fail
            refine HSO.out.mono ?_
            rintro e w8 ⟨rfl, l', hp, hso, hm8, hs8⟩
            have hY8 := (hs8.keeps.block Y (Array.getElem?_eq_some_iff.1 H8.out.1).1 (fun e => e.elim hYm H8.out.2.2.2.1)).trans H8.out.1
            have hR8 := (hs8.keeps.block R (Array.getElem?_eq_some_iff.1 H8.out.2.1).1 (fun e => e.elim hRm H8.out.2.2.2.2)).trans H8.out.2.1
            have hs9 := H8.out.2.2.1.trans hs8
            have z0 : w8.cell? ⟨Y, 0, none⟩ = some (.int .u32 (id : Int)) := by simp [World.cell?, hY8]
            have z1 : w8.cell? ⟨Y, 1, none⟩ = some (.int .i64 (r : Int)) := by simp [World.cell?, hY8]
            have z2 : w8.cell? ⟨Y, 2, none⟩ = some (.int .i64 (S : Int)) := by simp [World.cell?, hY8]
            have z3 : w8.cell? ⟨Y, 3, none⟩ = some (.int .i64 o) := by simp [World.cell?, hY8]
            have hw8 : R < w8.heap.size := (Array.getElem?_eq_some_iff.1 hR8).1
            have hRl : ¬ footM mb (.slice a' (m.cells.length + 1) cap') R := fun e => e.elim hRm H8.out.2.2.2.2
            have hRw : w.heap.size ≤ R := by have := HR.out; omega
            have HQ := Lib.hid (And.intro (show (Try.prog.info? 34).map (·.size) = some (#[.int .u32 (id : Int), .int .i64 (r : Int), .int .i64 (S : Int), .int .i64 o] : Array Value).size from size34) (And.intro (show zero4.size = (#[.int .u32 (id : Int), .int .i64 (r : Int), .int .i64 (S : Int), .int .i64 o] : Array Value).size from rfl) (show (#[.int .u32 (id : Int), .int .i64 (r : Int), .int .i64 (S : Int), .int .i64 o] : Array Value).all (·.oneCell') = true from by rw [Array.all_eq_true_iff_forall_mem]; intro u hu; simp at hu; rcases hu with rfl | rfl | rfl | rfl <;> rfl)))
            have H9 := Lib.hid (And.intro hp (And.intro hso (And.intro hm8 hs9)))
            clear hp hso hm8 hs8 hs9 hY8 HSO H8
            go_wp2_with (with_reducible refine wpList_store_row (o := ⟨none, .store 34 (.tmp 6) (.tmp 80), _, _, _, _⟩) rfl 34 _ _ rfl _ _ rfl rfl _ _ hR8 HQ.out.1 HQ.out.2.1 HQ.out.2.2 ?_)
            obtain ⟨hp, hso, hm8, hs9⟩ := H9.out
            have hkp : Keeps (fun k => k = R) w8 (w8.setRow R #[.int .u32 (id : Int), .int .i64 (r : Int), .int .i64 (S : Int), .int .i64 o]) := ⟨rfl, rfl, rfl, by simp, fun k _ hk => setRow_other _ _ _ _ hk⟩
            refine bodyPost_ret (res21 _ _ R _ _ (by rfl) (by rfl) (setRow_heap _ _ _ _ _ _ hR8) rfl) rfl ?_
            obtain ⟨hb1, hb2, hb3⟩ := bad_iff HB.out
            have hont : o.toNat = on := by rw [← HOO.out]; simp
            have hpn := HPN.out
            refine ⟨⟨id, r, S, on⟩, 0, { m with cells := l' }, _, by rw [← HOO.out]; rfl, .inr (.inr (.inl ⟨HB.out, HID.out, rfl, ?_⟩)), hm8.keep hkp (fun k hk e => hRl (e ▸ hk)), ⟨⟨hs9.keeps.os, hs9.keeps.tape, hs9.keeps.output, by have := hs9.keeps.size; simp; omega, fun k hk hn => (setRow_other _ _ _ _ (by omega)).trans (hs9.keeps.block k hk hn)⟩, hs9.fresh⟩⟩
            · rw [hont]
              refine ⟨⟨rfl, rfl⟩, rfl, rfl, hlt0, ⟨k, by rw [← hpn.1]; exact HS.out, fun k' hk' => by rw [← hpn.1]; exact H4.out.2.2.2 k' hk'⟩, by show S < _; rw [← hpn.2]; exact hlt, ?_, fun r' hr' k' hk' => ?_, hp, hso⟩
              · show freeAt m.cells r S on = true
                unfold freeAt
                rw [← HF.out, ← HMM.out]; rfl
              · rw [← hpn.1] at hk' ⊢
                rw [← hpn.2] at hk'
                exact HALL.out r' hr' k' hk'
        · have g1 : ¬ (S < N) := hlt
          have hmore : ∀ k', k' * P < N → freeAt m.cells r (k' * P) on = false := fun k' hk' => hall k' (by
            rw [hS] at hlt
            exact Nat.lt_of_mul_lt_mul_right (Nat.lt_of_lt_of_le hk' (by omega)))
          have HMORE := Lib.hid hmore
          clear hbl hrz hcc hall hS hmore hlt
          go_wp2_with fail
          rw [show (r : Int) + 1 = ((r + 1 : Nat) : Int) by omega]
          go_roundg (go - 1)
          case measure => omega
          case rel =>
            refine ⟨r + 1, rfl, by omega, by omega, H4.out.1, H4.out.2.1, fun r' hr' k' hk' => ?_⟩
            by_cases e : r' = r
            · rw [e]; exact HMORE.out k' hk'
            · exact HALL.out r' (by omega) k' hk'
    · have hr : ¬ (r < 16) := hlt
      obtain rfl : r = 16 := by omega
      have HQ := Lib.hid (And.intro (show (Try.prog.info? 34).map (·.size) = some (#[.int .u32 0, .int .i64 0, .int .i64 0, .int .i64 0] : Array Value).size from size34) (And.intro (show zero4.size = (#[.int .u32 0, .int .i64 0, .int .i64 0, .int .i64 0] : Array Value).size from rfl) (show (#[.int .u32 0, .int .i64 0, .int .i64 0, .int .i64 0] : Array Value).all (·.oneCell') = true from by rw [Array.all_eq_true_iff_forall_mem]; intro u hu; simp at hu; rcases hu with rfl | rfl <;> rfl)))
      clear hbl hall hlt hr
      go_wp2_with (with_reducible refine wpList_store_row rfl 34 _ _ rfl _ _ rfl rfl _ _ hrz HQ.out.1 HQ.out.2.1 HQ.out.2.2 ?_)
      have hs : wr.setRow R zero4 = wr := setRow_self _ _ _ _ _ hrz
      refine bodyPost_ret (res21 _ _ R _ _ (by rfl) (by rfl) (by rw [show (#[.int .u32 0, .int .i64 0, .int .i64 0, .int .i64 0] : Array Value) = zero4 from rfl, hs]; exact hrz) rfl) rfl ?_
      rw [show (#[.int .u32 0, .int .i64 0, .int .i64 0, .int .i64 0] : Array Value) = zero4 from rfl, hs]
      have hont : o.toNat = on := by rw [← HOO.out]; simp
      have hpn := HPN.out
      refine ⟨zeroC, 5, m, v, rfl, .inr (.inr (.inr ⟨HB.out, HID.out, rfl, rfl, rfl, fun r' hr' k' hk' => ?_⟩)), HM.out.below HBZ.out.1, MStep.of_below HBZ.out.1⟩
      rw [hont] at hk' ⊢
      rw [← hpn.1] at hk' ⊢
      rw [← hpn.2] at hk'
      exact HALL.out r' hr' k' hk'

theorem place_calls {w : World} {mb : Nat} {v : Value} {m : Mx} (h : MatAt w mb v m) (hl : m.cells.length ≤ 1000) (hfit : Fit m.cells) (hn : m.n ≤ 10) (id : Nat) (o : Int) :
    Calls Try.prog 21 #[.pointer (some ⟨mb, 0, none⟩), .int .u32 (id : Int), .int .i64 o] w (PlaceE w mb v m id o) := by
  by_cases hb : badArg m id o
  · exact place_bad h id o hb
  · by_cases hid : ∃ c ∈ m.cells, c.id = id
    · exact place_twice h hl id o hb hid
    · exact place_go h hl hfit hn id o hb (fun c hc e => hid ⟨c, hc, e⟩)
end Go.Proofs.Ytnokmbjgfglaoaa
