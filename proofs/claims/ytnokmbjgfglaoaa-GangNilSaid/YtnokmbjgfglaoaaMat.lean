/- The matrix in memory: a block of three cells (the order, the cells, the active row); contract: row. -/
import Derived.Test.YtnokmbjgfglaoaaAndOr
set_option linter.unusedSimpArgs false
set_option linter.unusedVariables false
namespace Go.Proofs.Ytnokmbjgfglaoaa
open Go Go.RowKit

structure Mx where
  n : Nat
  cells : List Cel
  act : Nat

structure MatAt (w : World) (mb : Nat) (v : Value) (m : Mx) : Prop where
  heap : w.heap[mb]? = some (.cells #[.int .i64 (m.n : Int), v, .int .i64 (m.act : Int)] 62 (0, 0))
  own : OwnC w v m.cells
  off : v.ownBlock ≠ some mb
def footM (mb : Nat) (v : Value) (k : Nat) : Prop := k = mb ∨ v.ownBlock = some k

section
variable {w w' : World} {mb : Nat} {v : Value} {m : Mx}
theorem MatAt.lt (h : MatAt w mb v m) : mb < w.heap.size := (Array.getElem?_eq_some_iff.1 h.heap).1
theorem MatAt.foot_lt (h : MatAt w mb v m) (k : Nat) (hk : footM mb v k) : k < w.heap.size := by
  rcases hk with rfl | hk
  · exact h.lt
  · exact (h.own.lt k hk).2
theorem MatAt.c0 (h : MatAt w mb v m) : w.cell? ⟨mb, 0, none⟩ = some (.int .i64 (m.n : Int)) := by simp [World.cell?, h.heap]
theorem MatAt.c1 (h : MatAt w mb v m) : w.cell? ⟨mb, 1, none⟩ = some v := by simp [World.cell?, h.heap]
theorem MatAt.c2 (h : MatAt w mb v m) : w.cell? ⟨mb, 2, none⟩ = some (.int .i64 (m.act : Int)) := by simp [World.cell?, h.heap]
theorem MatAt.frozen (h : MatAt w mb v m) (i : Nat) : w.frozen? ⟨mb, i, none⟩ = false := by simp [World.frozen?, h.heap]
theorem MatAt.keep {F : Nat → Prop} (h : MatAt w mb v m) (hk : Keeps F w w') (hn : ∀ k, footM mb v k → ¬ F k) : MatAt w' mb v m :=
  ⟨by rw [hk.block mb h.lt (hn mb (.inl rfl))]; exact h.heap, own_keeps h.own hk fun k hk' => hn k (.inr hk'), h.off⟩
theorem MatAt.below (h : MatAt w mb v m) (hb : Below w.heap.size w w') : MatAt w' mb v m := h.keep (F := fun _ => False) (Keeps.of_below hb) fun _ _ => id
end

/-- What a method may do. -/
structure MStep (w : World) (mb : Nat) (v : Value) (w' : World) (v' : Value) : Prop where
  keeps : Keeps (footM mb v) w w'
  fresh : ∀ k, footM mb v' k → footM mb v k ∨ w.heap.size ≤ k
theorem MStep.refl (w : World) (mb : Nat) (v : Value) : MStep w mb v w v := ⟨Keeps.refl _ _, fun _ => .inl⟩
theorem MStep.trans {w w1 w2 : World} {mb : Nat} {v v1 v2 : Value} (h : MStep w mb v w1 v1) (k : MStep w1 mb v1 w2 v2) : MStep w mb v w2 v2 :=
  ⟨h.keeps.trans k.keeps fun i hi hf => (h.fresh i hf).resolve_right (by omega), fun i hi => (k.fresh i hi).elim (h.fresh i) fun hh => .inr (Nat.le_trans h.keeps.size hh)⟩
theorem MStep.of_below {w w' : World} {mb : Nat} {v : Value} (h : Below w.heap.size w w') : MStep w mb v w' v := ⟨Keeps.of_below h, fun _ => .inl⟩
theorem MStep.later {w w1 w2 : World} {mb : Nat} {v v1 : Value} (h : MStep w mb v w1 v1) (hb : Below w1.heap.size w1 w2) : MStep w mb v w2 v1 := h.trans (MStep.of_below hb)
theorem MStep.notFoot {w w' : World} {mb : Nat} {v v' : Value} (h : MStep w mb v w' v') {k : Nat} (hk : k < w.heap.size) (hn : ¬ footM mb v k) : ¬ footM mb v' k := fun hf => (h.fresh k hf).elim hn (by omega)

/-- The workers that have a job in a row. -/
def rowF (l : List Cel) (n : Int) : Nat → Bool := fun u => l.any fun c => decide ((c.row : Int) = n) && inS c.s c.o u
def Fit (l : List Cel) : Prop := ∀ c ∈ l, c.o ≤ 10 ∧ c.s + 2 ^ c.o ≤ 1024

theorem exec_load_row {P : Program} {o : Oper} {a : Act} {w : World} {ty : TypeId} {x : Operand} (ho : o.op = .load ty x)
    {g : Nat} (hx : a.eval x = .pointer (some ⟨g, 0, none⟩)) {t : TypeId} {cs : Array Value} {fr : Nat × Nat} {d : TypeDesc} (hg : w.heap[g]? = some (.cells cs t fr))
    (hu : P.underlying ty = some d) (hd : (match d with | .struct _ | .array _ _ => true | _ => false) = true) (hi : (P.info? ty).map (·.size) = some cs.size) :
    (execOp a.eval o).run P w = .ok (.value (.agg cs)) w := by
  unfold execOp
  simp only [ho, hx, Instr.loadAt, Instr.sureAddr, Sem.run_bind, Sem.run_pure, Result.andThen_ok, run_loadVar_row w g t ty cs fr d hg hu hd hi]

theorem info65 (f : Nat → Bool) : (Try.prog.info? 65).map (·.size) = some (colsA f).size := by rw [colsA_size]; kernel_rfl

theorem rowF_next (l : List Cel) (n : Int) (k : Nat) (c : Cel) (h : l[k]? = some c) (u : Nat) : rowF (l.take (k + 1)) n u = (rowF (l.take k) n u || (decide ((c.row : Int) = n) && inS c.s c.o u)) := by
  unfold rowF
  rw [List.take_add_one, h, List.any_append]
  simp

set_option maxHeartbeats 4000000 in
set_option maxRecDepth 100000 in
theorem row_calls {w : World} {mb : Nat} {v : Value} {m : Mx} (h : MatAt w mb v m) (hfit : Fit m.cells) (hl : m.cells.length ≤ 1000000) (n : Int) :
    Calls Try.prog 37 #[.pointer (some ⟨mb, 0, none⟩), .int .i64 n] w fun e w' => e = .returned (.agg (colsA (rowF m.cells n))) ∧ Below w.heap.size w w' := by
  obtain ⟨mn, l, ma⟩ := m
  simp only at hfit hl ⊢
  obtain ⟨a, c, rfl, hn, hc, hg⟩ := own_form h.own
  simp only at hn hg
  obtain ⟨B, hB⟩ : ∃ B, B = w.heap.size := ⟨_, rfl⟩
  obtain ⟨W1, hW1⟩ : ∃ W1, W1 = (w.alloc (.cells zero16 65)).alloc (.cells zero16 65) := ⟨_, rfl⟩
  have hb0 : W1.heap[B]? = some (.cells zero16 65 (0, 0)) := by rw [hW1, hB, Below.heap_alloc _ _ _ (by simp)]; exact box_heap _ _ _
  have hb1 : W1.heap[B + 1]? = some (.cells zero16 65 (0, 0)) := by
    rw [hW1, hB]
    have := box_heap (w.alloc (.cells zero16 65)) zero16 65
    rwa [show (w.alloc (.cells zero16 65)).heap.size = w.heap.size + 1 by simp] at this
  have hbl : Below B w W1 := by rw [hW1, hB]; exact ((Below.refl _ _).alloc (Nat.le_refl _) _).alloc (by simp) _
  have hml := h.lt
  have c1 : W1.cell? ⟨mb, 1, none⟩ = some (.slice a l.length c) := by
    rw [hbl.cell (by show mb < B; omega)]; exact h.c1
  have HO := Lib.hid h.own
  have HG := Lib.hid hg
  have HFIT := Lib.hid hfit
  have HB := Lib.hid hB
  have HW := Lib.hid hW1
  have HBL := Lib.hid hbl
  clear h hg hfit hB hW1 hbl hn hc hml
  go_enter Try.func37, Try.ntmps37
  go_upto_region 2 with (fail)
  show Code.wp _ _ _ _ ((w.alloc (.cells zero16 65)).alloc (.cells zero16 65))
  rw [← HB.out, ← HW.out]
  go_wp2_with fail
  go_loopg [13] 1000001 (fun q s13 wr => ∃ k : Nat, s13 = .int .i64 (k : Int) ∧ k ≤ l.length ∧ l.length - k ≤ q ∧ Below B w wr ∧ wr.heap[B]? = some (.cells zero16 65 (0, 0)) ∧ wr.heap[B + 1]? = some (.cells (colsA (rowF (l.take k) n)) 65 (0, 0)))
  case atStart => exact ⟨0, rfl, by omega, by omega, HBL.out, hb0, by rw [show rowF (l.take 0) n = fun _ => false by funext u; simp [rowF], ← zero16_eq]; exact hb1⟩
  case round =>
    clear hb0 hb1 c1
    obtain ⟨k, rfl, hk, hkg, hbl, hb0, hb1⟩ := hrel
    have HN := Lib.hid (And.intro hbl (And.intro hb0 hb1))
    by_cases hlt : k < l.length
    · obtain ⟨fb, rfl⟩ := HG.out.resolve_left (by omega)
      obtain ⟨x, hx⟩ : ∃ x, l[k]? = some x := ⟨_, List.getElem?_eq_getElem hlt⟩
      have hown : OwnC wr (.slice (some ⟨fb, 0, none⟩) l.length c) l := own_below HO.out (by rw [← HB.out]; exact hbl)
      obtain ⟨e0, e1, e2, e3⟩ := hown.four rfl k x hx
      have hxf := HFIT.out x (List.mem_of_getElem? hx)
      have HNX := Lib.hid (rowF_next l n k x hx)
      obtain ⟨xi, xr, xs, xo⟩ := x
      simp only at e0 e1 e2 e3 hxf
      have k0 : (0 : Int) ≤ (k : Int) := by omega
      have k1 : (k : Int) < (l.length : Int) := by omega
      clear hown hx hbl hb0 hb1 hlt
      by_cases hr : (xr : Int) = n
      · have g1 : ((xr : Int) == n) = true := by rw [beq_iff_eq]; exact hr
        have HR := Lib.hid hr
        clear hr
        obtain ⟨X, hX⟩ : ∃ X, X = wr.heap.size := ⟨_, rfl⟩
        obtain ⟨WX, hWX⟩ : ∃ WX, WX = wr.alloc (.cells #[.int .u32 (xi : Int), .int .i64 (xr : Int), .int .i64 (xs : Int), .int .i64 (xo : Int)] 34) := ⟨_, rfl⟩
        have hbW : Below wr.heap.size wr WX := by rw [hWX]; exact below_alloc' _ _
        have hx2 : WX.heap[X]? = some (.cells #[.int .u32 (xi : Int), .int .i64 (xr : Int), .int .i64 (xs : Int), .int .i64 (xo : Int)] 34 (0, 0)) := by rw [hWX, hX]; exact box_heap _ _ _
        have hB1 : B + 1 < wr.heap.size := (Array.getElem?_eq_some_iff.1 HN.out.2.2).1
        have hc2 : WX.heap[B + 1]? = some (.cells (colsA (rowF (l.take k) n)) 65 (0, 0)) := by rw [hbW.block _ hB1]; exact HN.out.2.2
        have hd2 : WX.heap[B]? = some (.cells zero16 65 (0, 0)) := by rw [hbW.block _ (by omega)]; exact HN.out.2.1
        have hbl2 : Below B w WX := HN.out.1.trans (hbW.mono (by omega))
        have HX := Lib.hid hX
        have HWX := Lib.hid hWX
        have HM := Lib.hid (And.intro hd2 (And.intro hbl2 hx2))
        have HC2 := Lib.hid hc2
        have hoc := fun W => of_calls xs xo hxf.1 hxf.2 W
        have hor := fun W => or_calls (rowF (l.take k) n) (inS xs xo) W
        have HOF := Lib.hid hoc
        have HOR := Lib.hid hor
        have hBX : B + 1 < X := by omega
        obtain ⟨F, hF⟩ : ∃ F, F = rowF (l.take k) n := ⟨_, rfl⟩
        rw [← hF] at hc2
        have HF := Lib.hid hF
        clear hX hWX hoc hor hbW hB1 hd2 hbl2 hF
        go_wp2_with fail
        rw [← HWX.out, ← HX.out]
        refine Thr.drawn [(0, false), (1, false), (2, false), (3, true), (4, true), (5, true)] 5
          (fun w' => w'.heap[X]? = some (.cells #[.int .u32 (xi : Int), .int .i64 (xr : Int), .int .i64 (xs : Int), .int .i64 (xo : Int)] 34 (0, 0)) ∧ w'.heap[B + 1]? = some (.cells (colsA F) 65 (0, 0))) (by kernel_rfl) (by kernel_rfl) (fun c a w d v h => by cases d <;> exact h) ⟨hx2, hc2⟩ ?_
        simp only [Thr.pick, Array.reduceGetElem?]
        refine Thr.read rfl (fun w' hS => exec_load_row rfl rfl hS.2 Try.underlying65 rfl (info65 _)) ?_
        simp only [Act.put, List.setIfInBounds_toArray, List.set_cons_zero, List.set_cons_succ]
        apply Thr.read rfl
        · intro w' hS
          go_simp
          try with_reducible rfl
        simp only [Act.put, List.setIfInBounds_toArray, List.set_cons_zero, List.set_cons_succ]
        apply Thr.read rfl
        · intro w' hS
          have s2 : w'.cell? ⟨X, 2, none⟩ = some (.int .i64 (xs : Int)) := by simp [World.cell?, hS.1]
          have s3 : w'.cell? ⟨X, 3, none⟩ = some (.int .i64 (xo : Int)) := by simp [World.cell?, hS.1]
          go_simp
          try with_reducible rfl
        simp only [Act.put, List.setIfInBounds_toArray, List.set_cons_zero, List.set_cons_succ]
        apply Thr.act rfl
        intro K hK
        go_simp
        refine (HOF.out _).mono ?_
        rintro e w3 ⟨rfl, hb3⟩
        have hsz : WX.drew.heap.size = WX.heap.size := rfl
        replace hx2 := (hb3.block X (Array.getElem?_eq_some_iff.1 hx2).1).trans hx2
        replace hc2 := (hb3.block (B + 1) (Array.getElem?_eq_some_iff.1 hc2).1).trans hc2
        refine hK _ _ ⟨hx2, hc2⟩ ?_
        clear hK K
        try simp only [Act.put, List.setIfInBounds_toArray, List.set_cons_zero, List.set_cons_succ]
        rw [HF.out] at hc2 ⊢
        apply Thr.act rfl
        intro K hK
        go_simp
        refine (HOR.out _).mono ?_
        rintro e w4 ⟨rfl, hb4⟩
        have hsz3 : w3.drew.heap.size = w3.heap.size := rfl
        replace hx2 := (hb4.block X (Array.getElem?_eq_some_iff.1 hx2).1).trans hx2
        replace hc2 := (hb4.block (B + 1) (Array.getElem?_eq_some_iff.1 hc2).1).trans hc2
        refine hK _ _ ⟨hx2, hc2⟩ ?_
        clear hK K
        try simp only [Act.put, List.setIfInBounds_toArray, List.set_cons_zero, List.set_cons_succ]
        have hW3 : Below WX.heap.size WX w3 := (below_drewN' WX 1).trans hb3
        have hW4 : Below w3.heap.size w3 w4 := hb4
        have hW : Below WX.heap.size WX w4 := hW3.trans (hW4.mono hW3.size)
        obtain ⟨m1, m2, m3⟩ := HM.out
        have hB2 : B < WX.heap.size := (Array.getElem?_eq_some_iff.1 m1).1
        have hd4 := (hW.block B hB2).trans m1
        have hbl4 : Below B w w4 := m2.trans (hW.mono (by omega))
        have hcn : (colsA fun v => rowF (l.take k) n v || inS xs xo v) = colsA (rowF (l.take (k + 1)) n) := colsA_congr fun u _ => by
          rw [HNX.out u]
          simp [HR.out]
        rw [hcn]
        have HF4 := Lib.hid (And.intro hd4 (And.intro hbl4 hc2))
        clear hd4 hbl4 hcn hW hW3 hW4 m1 m2 m3 hx2
        refine Thr.last rfl ?_
        intro K hK
        refine wp_store_row 65 _ _ rfl _ _ rfl rfl _ _ hc2 (info65 _) (by rw [colsA_size, colsA_size]) (colsA_one _) ?_
        refine hK _ _ ?_
        clear hK
        go_wp2_with fail
        rw [show (k : Int) + 1 = ((k + 1 : Nat) : Int) by omega]
        go_roundg (gk - 1)
        case measure => omega
        case rel =>
          obtain ⟨n1, n2, n3⟩ := HF4.out
          exact ⟨k + 1, rfl, by omega, by omega, (below_setRow n2 (by omega) _).trans ⟨rfl, rfl, rfl, Nat.le_refl _, fun _ _ => rfl⟩, (setRow_other _ _ _ _ (show B ≠ B + 1 by omega)).trans n1, setRow_heap _ _ _ _ _ _ n3⟩
      · have g1 : ((xr : Int) == n) = false := by rw [beq_eq_false_iff_ne]; exact hr
        have HR := Lib.hid hr
        clear hr
        obtain ⟨n1, n2, n3⟩ := HN.out
        have hB1 : B + 1 < wr.heap.size := (Array.getElem?_eq_some_iff.1 n3).1
        have hbW := below_alloc' wr (.cells #[.int .u32 (xi : Int), .int .i64 (xr : Int), .int .i64 (xs : Int), .int .i64 (xo : Int)] 34)
        have HF4 := Lib.hid (And.intro (n1.trans (hbW.mono (by omega))) (And.intro ((hbW.block B (by omega)).trans n2) ((hbW.block (B + 1) hB1).trans n3)))
        have hcn : colsA (rowF (l.take k) n) = colsA (rowF (l.take (k + 1)) n) := colsA_congr fun u _ => by
          rw [HNX.out u]
          simp [HR.out]
        have HCN := Lib.hid hcn
        clear hbW n1 n2 n3 hcn hB1
        go_wp2_with fail
        rw [show (k : Int) + 1 = ((k + 1 : Nat) : Int) by omega]
        go_roundg (gk - 1)
        case measure => omega
        case rel => exact ⟨k + 1, rfl, by omega, by omega, HF4.out.1, HF4.out.2.1, by rw [← HCN.out]; exact HF4.out.2.2⟩
    · have hk1 : ¬ ((k : Int) < (l.length : Int)) := by omega
      obtain ⟨F, hF⟩ : ∃ F, F = rowF (l.take k) n := ⟨_, rfl⟩
      rw [← hF] at hb1
      have hFF : F = rowF l n := by rw [hF, List.take_of_length_le (by omega)]
      have HFF := Lib.hid hFF
      have hz : zero16.size = (colsA F).size := by rw [colsA_size]; rfl
      have ho := colsA_one F
      have hi := info65 F
      obtain ⟨CF, hCF⟩ : ∃ CF, CF = colsA F := ⟨_, rfl⟩
      rw [← hCF] at hb1 hz ho hi
      have HCF := Lib.hid hCF
      have HZ := Lib.hid (And.intro hi (And.intro hz ho))
      have HBL2 := Lib.hid hbl
      clear hF hFF hCF hz ho hi hlt hbl
      go_wp2_with (first | (with_reducible refine wpList_load_row rfl 65 _ rfl _ rfl _ _ _ _ hb1 Try.underlying65 rfl HZ.out.1 ?_) | (with_reducible refine wpList_store_row rfl 65 _ _ rfl _ _ rfl rfl _ _ hb0 HZ.out.1 HZ.out.2.1 HZ.out.2.2 ?_))
      refine bodyPost_ret (v := .agg CF) ?_ rfl ?_
      · exact results_cell_row rfl _ _ B 65 _ (0, 0) _ (by rfl) (setRow_heap _ _ _ _ _ _ hb0) Try.underlying65 rfl HZ.out.1
      · refine ⟨by rw [HCF.out, HFF.out], ?_⟩
        rw [← HB.out]
        exact below_setRow HBL2.out (Nat.le_refl _) _
end Go.Proofs.Ytnokmbjgfglaoaa
