/- Contract: Runs (who runs is sorted by the call; here: the list that is handed to the sort, and that it is sorted by a contract that is given). -/
import Derived.Test.YtnokmbjgfglaoaaIns
set_option linter.unusedSimpArgs false
set_option linter.unusedVariables false
namespace Go.Proofs.Ytnokmbjgfglaoaa
open Go Go.RowKit Go.Lib Go.Sort

def runStep (row : Nat) (st : (Nat → Bool) × List Nat) (c : Cel) : (Nat → Bool) × List Nat :=
  if c.row = row ∧ meetsB st.1 (inS c.s c.o) = false then (fun u => st.1 u || inS c.s c.o u, st.2 ++ [c.id]) else st
def runRow (l : List Cel) (row : Nat) (st : (Nat → Bool) × List Nat) : (Nat → Bool) × List Nat := l.foldl (runStep row) st
def runsK (l : List Cel) (act rows : Nat) : Nat → (Nat → Bool) × List Nat
  | 0 => (fun _ => false, [])
  | k + 1 => runRow l ((act + k) % rows) (runsK l act rows k)
def runsL (m : Mx) : List Nat := (runsK m.cells m.act (rowsN m.cells) (rowsN m.cells)).2

theorem runStep_len (row : Nat) (st : (Nat → Bool) × List Nat) (c : Cel) : (runStep row st c).2.length ≤ st.2.length + 1 := by
  unfold runStep
  split
  · simp
  · omega
theorem runRow_len (row : Nat) : ∀ (l : List Cel) (st : (Nat → Bool) × List Nat), (runRow l row st).2.length ≤ st.2.length + l.length
  | [], st => by simp [runRow]
  | c :: l, st => by
    have h1 := runRow_len row l (runStep row st c)
    have h2 := runStep_len row st c
    show (runRow l row (runStep row st c)).2.length ≤ _
    simp only [List.length_cons]
    omega
theorem runsK_len (l : List Cel) (act rows : Nat) : ∀ k, (runsK l act rows k).2.length ≤ k * l.length
  | 0 => by simp [runsK]
  | k + 1 => by
    have h1 := runRow_len ((act + k) % rows) l (runsK l act rows k)
    have h2 := runsK_len l act rows k
    unfold runsK
    rw [Nat.add_mul, Nat.one_mul]
    omega
theorem runRow_next (l : List Cel) (row : Nat) (st : (Nat → Bool) × List Nat) (j : Nat) (c : Cel) (h : l[j]? = some c) : runRow (l.take (j + 1)) row st = runStep row (runRow (l.take j) row st) c := by
  unfold runRow
  rw [List.take_add_one, h, List.foldl_append]
  rfl

theorem wpList_load_row_g {P : Program} {ops : Array Oper} {rest : List Oper} {o : Oper} {a : Act} {w : World} {Q : Exit → Act → World → Prop} (hw : Region.wanted o (yielded ops a.tmps) = true) (ty : TypeId) (x : Operand) (ho : o.op = .load ty x)
    (g : Nat) (hx : a.eval x = .pointer (some ⟨g, 0, none⟩)) (t : TypeId) (cs : Array Value) (fr : Nat × Nat) (d : TypeDesc) (hg : w.heap[g]? = some (.cells cs t fr))
    (hu : P.underlying ty = some d) (hd : (match d with | .struct _ | .array _ _ => true | _ => false) = true) (hi : (P.info? ty).map (·.size) = some cs.size)
    (h : wpList P ops Q rest (a.put o.dst (.agg cs)) w) : wpList P ops Q (o :: rest) a w := by
  unfold wpList
  rw [if_pos hw]
  exact .inl (wp_load_row ty x ho g hx t cs fr d hg hu hd hi h)

theorem runs_nil (w : World) : Calls Try.prog 12 #[.pointer none] w fun e w' => e = .returned (.slice none 0 0) ∧ w' = w := by
  go_enter Try.func12, Try.ntmps12
  go_wp2_with fail
  go_ret
  exact ⟨rfl, rfl⟩

set_option maxHeartbeats 16000000 in
set_option maxRecDepth 100000 in
theorem runs_calls {w : World} {mb : Nat} {v : Value} {m : Mx} (h : MatAt w mb v m) (hl : m.cells.length ≤ 100) (hfit : Fit m.cells) (hrow : ∀ c ∈ m.cells, c.row < 16) (ha : m.act < 1000) (out : List Nat)
    (hsort : ∀ W V, OwnU W V (runsL m) → Calls Try.prog 35 #[V] W fun e W' => e = .returned (.tuple #[]) ∧ OwnU W' V out ∧ Keeps (fun k => V.ownBlock = some k) W W') :
    Calls Try.prog 12 #[.pointer (some ⟨mb, 0, none⟩)] w fun e w' => ∃ v', e = .returned v' ∧ OwnU w' v' out ∧ (∀ k, v'.ownBlock = some k → w.heap.size ≤ k) ∧ Below w.heap.size w w' := by
  obtain ⟨a, cap, rfl, hn, hc, hg⟩ := own_form h.own
  obtain ⟨L, hL⟩ : ∃ L, L = m.cells.length := ⟨_, rfl⟩
  obtain ⟨R, hR⟩ : ∃ R, R = rowsN m.cells := ⟨_, rfl⟩
  have hR16 : R ≤ 16 := by rw [hR]; exact rowsN_lt hrow
  obtain ⟨BB, hBB⟩ : ∃ BB, BB = w.heap.size := ⟨_, rfl⟩
  obtain ⟨W1, hW1⟩ : ∃ W1, W1 = w.alloc (.cells zero16 65) := ⟨_, rfl⟩
  have hbl : Below w.heap.size w W1 := by rw [hW1]; exact below_alloc' _ _
  have hbb : W1.heap[BB]? = some (.cells zero16 65 (0, 0)) := by rw [hW1, hBB]; exact box_heap _ _ _
  have h1 := h.below hbl
  have HRO := Lib.hid (rows_calls h1 (by omega) (fun c hc => by have := hrow c hc; omega))
  rw [← hR] at HRO
  have HM := Lib.hid h
  have HG := Lib.hid hg
  have HFIT := Lib.hid hfit
  have HROW := Lib.hid hrow
  have HL := Lib.hid hL
  have HR := Lib.hid hR
  have HB := Lib.hid hBB
  have HW1 := Lib.hid hW1
  have H1 := Lib.hid (And.intro hbl hbb)
  have HSORT := Lib.hid hsort
  rw [← hL] at hl
  clear h hg hfit hrow hL hn hc hR hBB hW1 hbl hbb h1 hsort
  go_enter Try.func12, Try.ntmps12
  go_upto_region 5 with (fail)
  show Code.wp _ _ _ _ (w.alloc (.cells zero16 65))
  rw [← HB.out, ← HW1.out]
  go_wp2_with fail
  refine HRO.out.mono ?_
  rintro e w2 ⟨rfl, hb2⟩
  have hb02 := H1.out.1.trans (hb2.mono H1.out.1.size)
  have hbb2 := (hb2.block BB (Array.getElem?_eq_some_iff.1 H1.out.2).1).trans H1.out.2
  have H2 := Lib.hid (And.intro hb02 hbb2)
  clear HRO hb2 hb02 hbb2
  go_wp2_with fail
  go_loopg [3, 16] 17 (fun q s3 s16 wr => ∃ k : Nat, s16 = .int .i64 (k : Int) ∧ k ≤ R ∧ R - k ≤ q ∧ Below w.heap.size w wr ∧ wr.heap[BB]? = some (.cells (colsA (runsK m.cells m.act R k).1) 65 (0, 0)) ∧ OwnU wr s3 (runsK m.cells m.act R k).2 ∧ (∀ b, s3.ownBlock = some b → BB < b))
  case atStart => exact ⟨0, rfl, by omega, by omega, H2.out.1, by rw [show colsA (runsK m.cells m.act R 0).1 = zero16 from zero16_eq.symm]; exact H2.out.2, ⟨rfl, .inl ⟨rfl, rfl⟩⟩, fun b hb => by simp [Value.ownBlock] at hb⟩
  case round =>
    clear H2
    obtain ⟨k, rfl, hkR, hkg, hbl, hbb, hou, hob⟩ := hrel
    have HOB := Lib.hid hob
    by_cases hlt : k < R
    · have hm := HM.out.below hbl
      have m1 : wr.cell? ⟨mb, 1, none⟩ = some (.slice a m.cells.length cap) := hm.c1
      rw [← HL.out] at m1
      have m2 : wr.cell? ⟨mb, 2, none⟩ = some (.int .i64 (m.act : Int)) := hm.c2
      obtain ⟨rw_, hrw⟩ : ∃ rw_, rw_ = (m.act + k) % R := ⟨_, rfl⟩
      have hmod : ((m.act : Int) + (k : Int)) % (R : Int) = (rw_ : Int) := by
        rw [hrw]; push_cast; rfl
      have r0 : (0 : Int) ≤ (m.act : Int) + (k : Int) := by omega
      have r1 : (1 : Int) ≤ (R : Int) := by omega
      have HRW := Lib.hid hrw
      have H3 := Lib.hid (And.intro hbl (And.intro hbb hou))
      clear hob hm hrw hbl hbb hou
      go_wp2_with fail
      rw [hmod]
      obtain ⟨go, rfl⟩ : ∃ go, go = gk := ⟨_, rfl⟩
      obtain ⟨wo, rfl⟩ : ∃ wo : World, wo = wr := ⟨_, rfl⟩
      go_loopg [3, 32] 102 (fun q s3 s32 wr => ∃ j : Nat, s32 = .int .i64 (j : Int) ∧ j ≤ L ∧ L - j ≤ q ∧ Below w.heap.size w wr ∧ wr.heap[BB]? = some (.cells (colsA (runRow (m.cells.take j) rw_ (runsK m.cells m.act R k)).1) 65 (0, 0)) ∧ OwnU wr s3 (runRow (m.cells.take j) rw_ (runsK m.cells m.act R k)).2 ∧ (∀ b, s3.ownBlock = some b → BB < b))
      case atStart => exact ⟨0, rfl, by omega, by omega, H3.out.1, H3.out.2.1, H3.out.2.2, HOB.out⟩
      case round =>
        clear m1 m2 H3 HOB hmod r0 r1
        obtain ⟨j, rfl, hjL, hjg, hbl, hbb, hou, hob⟩ := hrel
        by_cases hlt : j < L
        · obtain ⟨g, rfl⟩ := HG.out.resolve_left (by have := HL.out; omega)
          obtain ⟨st, hst⟩ : ∃ st, st = runRow (m.cells.take j) rw_ (runsK m.cells m.act R k) := ⟨_, rfl⟩
          rw [← hst] at hbb hou
          have hsl : st.2.length ≤ 3000 := by
            have h1 := runRow_len rw_ (m.cells.take j) (runsK m.cells m.act R k)
            have h2 := runsK_len m.cells m.act R k
            rw [← hst, List.length_take] at h1
            have h3 : k * m.cells.length ≤ 16 * 100 := Nat.mul_le_mul (by omega) (by have := HL.out; omega)
            omega
          obtain ⟨c, hcc⟩ : ∃ c, m.cells[j]? = some c := ⟨_, List.getElem?_eq_getElem (by have := HL.out; omega)⟩
          have hnx := runRow_next m.cells rw_ (runsK m.cells m.act R k) j c hcc
          rw [← hst] at hnx
          have hm := HM.out.below hbl
          have hown := hm.own
          obtain ⟨f0, f1, f2, f3⟩ := hown.four rfl j c hcc
          have hcf := HFIT.out c (List.mem_of_getElem? hcc)
          have hoc := fun W => of_calls c.s c.o hcf.1 hcf.2 W
          obtain ⟨CC, hCC⟩ : ∃ CC, CC = colsA (inS c.s c.o) := ⟨_, rfl⟩
          simp only [← hCC] at hoc
          have hme := fun W => meets_calls st.1 (inS c.s c.o) W
          have hor := fun W => or_calls st.1 (inS c.s c.o) W
          obtain ⟨CF, hCF⟩ : ∃ CF, CF = colsA st.1 := ⟨_, rfl⟩
          simp only [← hCC, ← hCF] at hme hor
          rw [← hCF] at hbb
          obtain ⟨M, hM⟩ : ∃ M, M = meetsB st.1 (inS c.s c.o) := ⟨_, rfl⟩
          simp only [← hM] at hme
          have hstep : runStep rw_ st c = if c.row = rw_ ∧ M = false then (fun u => st.1 u || inS c.s c.o u, st.2 ++ [c.id]) else st := by rw [hM]; rfl
          rw [hstep] at hnx
          have hi1 : (Try.prog.info? 65).map (·.size) = some CC.size := by rw [hCC]; exact info65 _
          have hi2 : (Try.prog.info? 65).map (·.size) = some CF.size := by rw [hCF]; exact info65 _
          have hi3 : zero16.size = CC.size := by rw [hCC, colsA_size]; rfl
          have hi4 : CC.all (·.oneCell') = true := by rw [hCC]; exact colsA_one _
          have j0 : (0 : Int) ≤ (j : Int) := by omega
          have j1 : (j : Int) < (L : Int) := by omega
          have HI := Lib.hid (And.intro hi1 (And.intro hi2 (And.intro hi3 hi4)))
          have HNX := Lib.hid hnx
          have HOC := Lib.hid hoc
          have HME := Lib.hid hme
          have HOR := Lib.hid hor
          have HCF := Lib.hid hCF
          have HS := Lib.hid (And.intro hbl (And.intro hbb (And.intro hou hob)))
          obtain ⟨X, hX⟩ : ∃ X, X = wr.heap.size := ⟨_, rfl⟩
          obtain ⟨WX, hWX⟩ : ∃ WX, WX = wr.alloc (.cells #[.int .u32 (c.id : Int), .int .i64 (c.row : Int), .int .i64 (c.s : Int), .int .i64 (c.o : Int)] 34) := ⟨_, rfl⟩
          have hbX : Below wr.heap.size wr WX := by rw [hWX]; exact below_alloc' _ _
          have hx : WX.heap[X]? = some (.cells #[.int .u32 (c.id : Int), .int .i64 (c.row : Int), .int .i64 (c.s : Int), .int .i64 (c.o : Int)] 34 (0, 0)) := by rw [hWX, hX]; exact box_heap _ _ _
          have x2 : WX.cell? ⟨X, 2, none⟩ = some (.int .i64 (c.s : Int)) := by simp [World.cell?, hx]
          have x3 : WX.cell? ⟨X, 3, none⟩ = some (.int .i64 (c.o : Int)) := by simp [World.cell?, hx]
          have HX := Lib.hid hX
          have HWX := Lib.hid hWX
          have HXX := Lib.hid (And.intro hbX hx)
          have HSL := Lib.hid hsl
          obtain ⟨ci, cr, cs, co⟩ := c
          simp only at f0 f1 f2 f3 x2 x3
          clear hbl hbb hou hob hst hsl hcc hnx hm hown hcf hoc hCC hme hor hCF hM hstep hi1 hi2 hi3 hi4 hX hWX hbX hx
          go_upto_region 13 with (fail)
          rw [← HWX.out, ← HX.out]
          clear f0 f1 f2 f3
          go_wp2_with fail
          refine (HOC.out _).mono ?_
          rintro e w4 ⟨rfl, hb4⟩
          obtain ⟨Y, hY⟩ : ∃ Y, Y = w4.heap.size := ⟨_, rfl⟩
          have hz0 := box_heap w4 zero16 65
          rw [← hY] at hz0
          obtain ⟨WY, hWY⟩ : ∃ WY, WY = (w4.alloc (.cells zero16 65)).setRow Y CC := ⟨_, rfl⟩
          have hbY : Below w4.heap.size w4 WY := by rw [hWY]; exact below_setRow (below_alloc' _ _) (by omega) _
          have hcy : WY.heap[Y]? = some (.cells CC 65 (0, 0)) := by rw [hWY]; exact setRow_heap _ _ _ _ _ _ hz0
          have hbXY : Below WX.heap.size WX WY := hb4.trans (hbY.mono hb4.size)
          have hbrY : Below wr.heap.size wr WY := HXX.out.1.trans (hbXY.mono HXX.out.1.size)
          have hxy := (hbXY.block X (Array.getElem?_eq_some_iff.1 HXX.out.2).1).trans HXX.out.2
          have hby := (hbrY.block BB (Array.getElem?_eq_some_iff.1 HS.out.2.1).1).trans HS.out.2.1
          have hBBY : BB < Y := by
            have h1 := (Array.getElem?_eq_some_iff.1 HS.out.2.1).1
            have h2 := HXX.out.1.size
            have h3 := hb4.size
            omega
          have y1 : WY.cell? ⟨X, 1, none⟩ = some (.int .i64 (cr : Int)) := by simp [World.cell?, hxy]
          have HYI := Lib.hid HI.out
          unfold zero16 at hz0 HYI hWY
          have HWY := Lib.hid hWY
          have HY := Lib.hid hY
          have H5 := Lib.hid (And.intro hbrY (And.intro hxy (And.intro hby hcy)))
          clear hY hWY hbY hbXY hbrY hxy hb4 x2 x3
          go_upto_region 14 with (first | (rw [← HY.out]; with_reducible refine wpList_store_row rfl 65 _ _ rfl _ _ rfl rfl _ _ hz0 HYI.out.1 HYI.out.2.2.1 HYI.out.2.2.2 ?_))
          rw [← HWY.out]
          clear hz0
          by_cases hrr : cr = rw_
          · have g1 : ((cr : Int) == (rw_ : Int)) = true := by rw [beq_iff_eq]; omega
            have HRR := Lib.hid hrr
            clear hrr
            go_wp2_with (first | (refine wpList_load_row_g (o := ⟨some 44, _, _, _, _, _⟩) (by rfl) 65 _ rfl _ rfl _ _ _ _ hby Try.underlying65 rfl HI.out.2.1 ?_) | (refine wpList_load_row_g (o := ⟨some 45, _, _, _, _, _⟩) (by rfl) 65 _ rfl _ rfl _ _ _ _ hcy Try.underlying65 rfl HI.out.1 ?_))
            refine (HME.out _).mono ?_
            rintro e w6 ⟨rfl, hb6⟩
            have hbr6 : Below wr.heap.size wr w6 := H5.out.1.trans (hb6.mono H5.out.1.size)
            have hx6 := (hb6.block X (Array.getElem?_eq_some_iff.1 H5.out.2.1).1).trans H5.out.2.1
            have hbb6 := (hb6.block BB (Array.getElem?_eq_some_iff.1 hby).1).trans hby
            have hcy6 := (hb6.block Y (Array.getElem?_eq_some_iff.1 hcy).1).trans hcy
            clear y1 hby hcy hb6
            cases M with
            | true =>
              have hn2 : runRow (m.cells.take (j + 1)) rw_ (runsK m.cells m.act R k) = st := by
                rw [HNX.out, if_neg (fun e => by simp at e)]
              have H6 := Lib.hid (And.intro hn2 (And.intro hbr6 hbb6))
              clear hn2 hbr6 hx6 hbb6 hcy6
              go_wp2_with fail
              rw [show (j : Int) + 1 = ((j + 1 : Nat) : Int) by omega]
              go_roundg (gk - 1)
              case measure => omega
              case rel =>
                obtain ⟨s1, s2, s3, s4⟩ := HS.out
                obtain ⟨t1, t2, t3⟩ := H6.out
                refine ⟨j + 1, rfl, by omega, by omega, s1.trans (t2.mono s1.size), ?_, ?_, s4⟩
                · rw [t1, ← HCF.out]; exact t3
                · rw [t1]; exact own_below s3 t2
            | false =>
              have hn2 : runRow (m.cells.take (j + 1)) rw_ (runsK m.cells m.act R k) = (fun u => st.1 u || inS cs co u, st.2 ++ [ci]) := by
                rw [HNX.out, if_pos ⟨HRR.out, rfl⟩]
              have x0 : w6.cell? ⟨X, 0, none⟩ = some (.int .u32 (ci : Int)) := by simp [World.cell?, hx6]
              have HN2 := Lib.hid hn2
              have H6 := Lib.hid (And.intro hbr6 (And.intro hx6 hbb6))
              clear hn2 hbr6 hx6
              go_wp2_with (first | (refine wpList_load_row (o := ⟨some 49, _, _, _, _, _⟩) rfl 65 _ rfl _ rfl _ _ _ _ hbb6 Try.underlying65 rfl HI.out.2.1 ?_) | (refine wpList_load_row (o := ⟨some 50, _, _, _, _, _⟩) rfl 65 _ rfl _ rfl _ _ _ _ hcy6 Try.underlying65 rfl HI.out.1 ?_))
              refine (HOR.out _).mono ?_
              rintro e w7 ⟨rfl, hb7⟩
              have hbb7 := (hb7.block BB (Array.getElem?_eq_some_iff.1 hbb6).1).trans hbb6
              have hx7 := (hb7.block X (Array.getElem?_eq_some_iff.1 H6.out.2.1).1).trans H6.out.2.1
              obtain ⟨CO, hCO⟩ : ∃ CO, CO = colsA fun u => st.1 u || inS cs co u := ⟨_, rfl⟩
              rw [← hCO]
              obtain ⟨W8, hW8⟩ : ∃ W8, W8 = w7.setRow BB CO := ⟨_, rfl⟩
              have hb78 : Keeps (fun b => b = BB) w7 W8 := by rw [hW8]; exact ⟨rfl, rfl, rfl, by simp, fun b _ hb => setRow_other _ _ _ _ hb⟩
              have hbb8 : W8.heap[BB]? = some (.cells CO 65 (0, 0)) := by rw [hW8]; exact setRow_heap _ _ _ _ _ _ hbb7
              have hXB : X ≠ BB := by
                have h1 := (Array.getElem?_eq_some_iff.1 HS.out.2.1).1
                have h2 := HX.out
                omega
              have hx8 := (hb78.block X (Array.getElem?_eq_some_iff.1 hx7).1 hXB).trans hx7
              have y0 : W8.cell? ⟨X, 0, none⟩ = some (.int .u32 (ci : Int)) := by simp [World.cell?, hx8]
              have hou7 := own_below (own_below HS.out.2.2.1 H6.out.1) hb7
              have hou8 : OwnU W8 u3 st.2 := own_keeps hou7 hb78 (fun b hb e => by have := HS.out.2.2.2 b hb; omega)
              have hbr8 : Below w.heap.size w W8 := by
                rw [hW8]
                have h1 := HS.out.1.trans (H6.out.1.mono HS.out.1.size)
                exact below_setRow (h1.trans (hb7.mono h1.size)) (by rw [HB.out]; exact Nat.le_refl _) _
              have hq1 : (Try.prog.info? 65).map (·.size) = some CO.size := by rw [hCO]; exact info65 _
              have hq2 : CF.size = CO.size := by rw [HCF.out, hCO, colsA_size, colsA_size]
              have hq3 : CO.all (·.oneCell') = true := by rw [hCO]; exact colsA_one _
              have HQ := Lib.hid (And.intro hq1 (And.intro hq2 hq3))
              have HCO := Lib.hid hCO
              have HW8 := Lib.hid hW8
              -- the append
              obtain ⟨Z, hZ⟩ : ∃ Z, Z = W8.heap.size := ⟨_, rfl⟩
              obtain ⟨W9, hW9⟩ : ∃ W9, W9 = W8.alloc (.cells #[.int .u32 (ci : Int)] 30) := ⟨_, rfl⟩
              have hb89 : Below W8.heap.size W8 W9 := by rw [hW9]; exact below_alloc' _ _
              have hou9 := own_below hou8 hb89
              have hz9 : W9.heap[Z]? = some (.cells #[.int .u32 (ci : Int)] 30 (0, 0)) := by rw [hW9, hZ]; exact box_heap _ _ _
              obtain ⟨i0, hi0, hz0', hz1, hz2⟩ := info_parts info30
              have hnews : ∀ t u, ([.int .u32 (ci : Int)] : List Value)[t]? = some u → W9.cell? ((⟨Z, 0, none⟩ : Addr).add t) = some u := fun t u hu => by
                rw [Addr.add_lit, Nat.zero_add]
                simp only [World.cell?, hz9]
                match t, hu with
                | 0, hu => simpa using hu
              have hone : ∀ u ∈ ([.int .u32 (ci : Int)] : List Value), u.oneCell' = true := by intro u hu; simp at hu; subst hu; rfl
              have hsl := HSL.out
              obtain ⟨v', W10, hrun, hown10, hgr10, _⟩ := run_append_own (P := Try.prog) W9 0 27 27 30 i0 (.int .u32 0) 1 4 Try.underlying27 hi0 hz0' hz1 hz2 rfl (by omega)
                u3 st.2.length (uv st.2) hou9 ⟨Z, 0, none⟩ 1 1 [.int .u32 (ci : Int)] rfl hnews hone (by simp [maxLen]; omega) (by omega) (by omega)
              have hat := append_at (P := Try.prog) Try.underlying27 hi0 hz0' (n := st.2.length) (xs := uv st.2) (by rw [hz1]; exact hou9) (a := ⟨Z, 0, none⟩) (m := 1) (c := 1) (news := [.int .u32 (ci : Int)]) (by rw [hz1]; rfl) hnews hone (by omega) (by simp [maxLen]; omega) (by rw [hz2]; omega) hrun
              have hbb10 : W10.heap[BB]? = some (.cells CO 65 (0, 0)) := by
                rw [hgr10.block BB (by have := (Array.getElem?_eq_some_iff.1 hbb8).1; have := hb89.size; omega) (fun e => by have := HS.out.2.2.2 BB e.symm; omega)]
                exact (hb89.block BB (Array.getElem?_eq_some_iff.1 hbb8).1).trans hbb8
              have hbw10 : Below w.heap.size w W10 := by
                have h1 := hbr8.trans (hb89.mono hbr8.size)
                refine h1.trans (hb_grown hgr10 (fun b hb => ?_) h1.size)
                have := HS.out.2.2.2 b hb
                have := HB.out
                omega
              have hob10 : ∀ b, v'.ownBlock = some b → BB < b := fun b hb => by
                rcases hat with e | e
                · exact HS.out.2.2.2 b (e.symm.trans hb)
                · rw [hb] at e; injection e with e
                  have h1 := (Array.getElem?_eq_some_iff.1 hbb8).1
                  have h2 := hb89.size
                  omega
              have hou10 : OwnU W10 v' (st.2 ++ [ci]) := by
                unfold OwnU
                rw [List.length_append]
                have e : uv (st.2 ++ [ci]) = uv st.2 ++ [.int .u32 (ci : Int)] := by simp [uv]
                rw [e]
                exact hown10
              have HRUN := Lib.hid hrun
              have H10 := Lib.hid (And.intro hbw10 (And.intro hbb10 (And.intro hou10 hob10)))
              have HW9 := Lib.hid (And.intro hW9 hZ)
              clear hZ hW9 hb89 hou9 hz9 hi0 hz0' hz1 hz2 hnews hone hsl hrun hown10 hgr10 hat hbb10 hbw10 hob10 hou10 hW8 hCO hq1 hq2 hq3 hou7 hou8 hbr8 hx8 hb78 hx7 hb7 x0 hbb8
              go_upto_region 16 with (with_reducible refine wpList_store_row rfl 65 _ _ rfl _ _ rfl rfl _ _ hbb7 HQ.out.1 HQ.out.2.1 HQ.out.2.2 ?_)
              rw [← HW8.out]
              simp only [HW9.out.2, HW9.out.1] at HRUN
              go_wp2_with (with_reducible refine Row.list_append HRUN.out rfl rfl rfl rfl ?_)
              rw [show (j : Int) + 1 = ((j + 1 : Nat) : Int) by omega]
              go_roundg (gk - 1)
              case measure => omega
              case rel =>
                obtain ⟨t1, t2, t3, t4⟩ := H10.out
                refine ⟨j + 1, rfl, by omega, by omega, t1, ?_, ?_, t4⟩
                · rw [HN2.out, ← HCO.out]; exact t2
                · rw [HN2.out]; exact t3
          · have g1 : ((cr : Int) == (rw_ : Int)) = false := by rw [beq_eq_false_iff_ne]; omega
            have hn2 : runRow (m.cells.take (j + 1)) rw_ (runsK m.cells m.act R k) = st := by
              rw [HNX.out, if_neg (fun e => hrr e.1)]
            have HN2 := Lib.hid hn2
            clear hn2 hrr hby hcy
            go_wp2_with fail
            rw [show (j : Int) + 1 = ((j + 1 : Nat) : Int) by omega]
            go_roundg (gk - 1)
            case measure => omega
            case rel =>
              obtain ⟨s1, s2, s3, s4⟩ := HS.out
              obtain ⟨t1, t2, t3, t4⟩ := H5.out
              refine ⟨j + 1, rfl, by omega, by omega, s1.trans (t1.mono s1.size), ?_, ?_, s4⟩
              · rw [HN2.out, ← HCF.out]; exact t3
              · rw [HN2.out]; exact own_below s3 t1
        · have hjl : j = L := by omega
          subst hjl
          rw [HL.out, List.take_length] at hbb hou
          have hk1 : runRow m.cells rw_ (runsK m.cells m.act R k) = runsK m.cells m.act R (k + 1) := by rw [HRW.out]; rfl
          rw [hk1] at hbb hou
          have HS := Lib.hid (And.intro hbl (And.intro hbb (And.intro hou hob)))
          clear hbl hbb hou hob hk1
          go_wp2_with fail
          rw [show (k : Int) + 1 = ((k + 1 : Nat) : Int) by omega]
          go_roundg (go - 1)
          case measure => omega
          case rel => exact ⟨k + 1, rfl, by omega, by omega, HS.out⟩
    · have hk : k = R := by omega
      subst hk
      have hru : (runsK m.cells m.act k k).2 = runsL m := by unfold runsL; rw [← HR.out]
      rw [hru] at hou
      have hcall := Lib.hid (HSORT.out _ _ hou)
      clear hru HSORT
      go_wp2_with fail
      refine hcall.out.mono ?_
      rintro e wx ⟨rfl, ho, hkp⟩
      have hbw : Below w.heap.size w wx := by
        refine ⟨hkp.os.trans hbl.os, hkp.tape.trans hbl.tape, hkp.output.trans hbl.output, Nat.le_trans hbl.size hkp.size, fun b hb => ?_⟩
        rw [hkp.block b (Nat.lt_of_lt_of_le hb hbl.size) (fun e => by have h1 := hob b e; have h2 := HB.out; omega)]
        exact hbl.block b hb
      have hbo : ∀ b, u3.ownBlock = some b → w.heap.size ≤ b := fun b e => by have h1 := hob b e; have h2 := HB.out; omega
      have HF := Lib.hid (And.intro ho (And.intro hbo hbw))
      clear ho hbo hbw hkp hbl hbb hou hob hcall
      go_wp2_with fail
      go_ret
      exact ⟨u3, rfl, HF.out⟩
end Go.Proofs.Ytnokmbjgfglaoaa
