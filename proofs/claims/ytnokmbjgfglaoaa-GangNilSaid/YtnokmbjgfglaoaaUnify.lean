/- Contract: Unify. -/
import Derived.Test.YtnokmbjgfglaoaaUni
set_option linter.unusedSimpArgs false
set_option linter.unusedVariables false
namespace Go.Proofs.Ytnokmbjgfglaoaa
open Go Go.RowKit Go.Lib Go.Sort

/-- What Unify makes of a matrix, and answers. -/
def UniR (m m' : Mx) (n : Nat) : Prop := ∃ l2, l2.Perm (passU m.cells m.cells.length).1 ∧ SortC l2 ∧ m' = ⟨m.n, (renU m.act l2 (-1) 0 0).1, (renU m.act l2 (-1) 0 0).2⟩ ∧ n = (passU m.cells m.cells.length).2
def UniE (w : World) (mb : Nat) (v : Value) (m : Mx) (e : Ending) (w' : World) : Prop :=
  ∃ m' n v', e = .returned (.int .i64 ((n : Nat) : Int)) ∧ UniR m m' n ∧ MatAt w' mb v' m' ∧ MStep w mb v w' v'

theorem unify_nil (w : World) : Calls Try.prog 20 #[.pointer none] w fun e w' => e = .returned (.int .i64 0) ∧ w' = w := by
  go_enter Try.func20, Try.ntmps20
  go_wp2_with fail
  go_ret
  exact ⟨rfl, rfl⟩

theorem passU_step {l : List Cel} {i : Nat} {c : Cel} (hc : (passU l i).1[i]? = some c) :
    passU l (i + 1) = match goAhead (passU l i).1 c with | none => passU l i | some r => ((passU l i).1.set i { c with row := r }, (passU l i).2 + 1) := by
  rw [passU]
  unfold stepU
  rw [hc]
  simp only
  cases goAhead (passU l i).1 c <;> rfl

set_option maxHeartbeats 16000000 in
set_option maxRecDepth 100000 in
theorem unify_calls {w : World} {mb : Nat} {v : Value} {m : Mx} (h : MatAt w mb v m) (hl : m.cells.length ≤ 1000) (hfit : Fit m.cells) (hrow : ∀ c ∈ m.cells, c.row < 1000) (ha : m.act < 1000) :
    Calls Try.prog 20 #[.pointer (some ⟨mb, 0, none⟩)] w (UniE w mb v m) := by
  obtain ⟨a, cap, rfl, hn, hc, hg⟩ := own_form h.own
  obtain ⟨L, hL⟩ : ∃ L, L = m.cells.length := ⟨_, rfl⟩
  have c1 := h.c1
  rw [← hL] at c1
  have HM := Lib.hid h
  have HG := Lib.hid hg
  have HFIT := Lib.hid hfit
  have HROW := Lib.hid hrow
  have HL := Lib.hid hL
  rw [← hL] at hl
  clear h hg hfit hrow hL hn hc
  go_enter Try.func20, Try.ntmps20
  go_wp2_with fail
  go_loopg [3, 19] 1001 (fun q s3 s19 wr => ∃ i : Nat, s3 = .int .i64 (((passU m.cells i).2 : Nat) : Int) ∧ s19 = .int .i64 (i : Int) ∧ i ≤ L ∧ L - i ≤ q ∧ MatAt wr mb (Value.slice a L cap) { m with cells := (passU m.cells i).1 } ∧ MStep w mb (Value.slice a L cap) wr (Value.slice a L cap))
  case atStart => exact ⟨0, rfl, rfl, by omega, by omega, by rw [HL.out]; exact HM.out, MStep.refl _ _ _⟩
  case round =>
    clear c1
    obtain ⟨i, rfl, rfl, hiL, hig, hm, hst⟩ := hrel
    obtain ⟨n, hn⟩ : ∃ n, n = (passU m.cells i).2 := ⟨_, rfl⟩
    have hni : n ≤ i := by rw [hn]; exact passU_n _ _
    rw [← hn]
    have HN := Lib.hid hn
    clear hn
    by_cases hlt : i < L
    · obtain ⟨g, rfl⟩ := HG.out.resolve_left (by have := HL.out; omega)
      obtain ⟨li, hli⟩ : ∃ li, li = (passU m.cells i).1 := ⟨_, rfl⟩
      have hlen : li.length = L := by rw [hli, passU_len, ← HL.out]
      rw [← hli] at hm
      obtain ⟨c, hcc⟩ : ∃ c, li[i]? = some c := ⟨_, List.getElem?_eq_getElem (by omega)⟩
      have hfi : Fit li := by rw [hli]; exact passU_fit HFIT.out i
      have hcf := hfi c (List.mem_of_getElem? hcc)
      have hcr : c.row < 1000 := by have := passU_rows HROW.out i c (by rw [← hli]; exact List.mem_of_getElem? hcc); exact this
      have hstep := passU_step (l := m.cells) (i := i) (c := c) (by rw [← hli]; exact hcc)
      rw [← hli] at hstep
      have hown := hm.own
      simp only at hown
      obtain ⟨f0, f1, f2, f3⟩ := hown.four (by rw [hlen]) i c hcc
      have i0 : (0 : Int) ≤ (i : Int) := by omega
      have i1 : (i : Int) < (L : Int) := by omega
      obtain ⟨X, hX⟩ : ∃ X, X = wr.heap.size := ⟨_, rfl⟩
      obtain ⟨WX, hWX⟩ : ∃ WX, WX = wr.alloc (.cells #[.int .u32 (c.id : Int), .int .i64 (c.row : Int), .int .i64 (c.s : Int), .int .i64 (c.o : Int)] 34) := ⟨_, rfl⟩
      have hbX : Below wr.heap.size wr WX := by rw [hWX]; exact below_alloc' _ _
      have hx : WX.heap[X]? = some (.cells #[.int .u32 (c.id : Int), .int .i64 (c.row : Int), .int .i64 (c.s : Int), .int .i64 (c.o : Int)] 34 (0, 0)) := by rw [hWX, hX]; exact box_heap _ _ _
      have HSTEP := Lib.hid hstep
      have HLI := Lib.hid hli
      have HFI := Lib.hid hfi
      have HCC := Lib.hid hcc
      have HLEN := Lib.hid hlen
      have HX := Lib.hid hX
      have HWX := Lib.hid hWX
      have HMM := Lib.hid (And.intro hm hst)
      have HXX := Lib.hid (And.intro hbX hx)
      have x1 : WX.cell? ⟨X, 1, none⟩ = some (.int .i64 (c.row : Int)) := by simp [World.cell?, hx]
      obtain ⟨ci, cr, cs, co⟩ := c
      simp only at f0 f1 f2 f3 hcf hcr x1
      have HCF := Lib.hid hcf
      clear hstep hli hfi hcc hlen hX hWX hm hst hbX hx hown hlt hcf
      go_upto_region 7 with (fail)
      rw [← HWX.out, ← HX.out]
      clear f0 f1 f2 f3
      go_wp2_with fail
      obtain ⟨go, rfl⟩ : ∃ go, go = gk := ⟨_, rfl⟩
      obtain ⟨wo, rfl⟩ : ∃ wo : World, wo = wr := ⟨_, rfl⟩
      go_loopg [3, 26] 1001 (fun q s3 s26 wr => ∃ r : Nat, s3 = .int .i64 (n : Int) ∧ s26 = .int .i64 (r : Int) ∧ r ≤ cr ∧ cr - r ≤ q ∧ Below WX.heap.size WX wr ∧ goAhead li ⟨ci, cr, cs, co⟩ = ahead li ⟨ci, cr, cs, co⟩ (cr + 1 - r) r)
      case atStart => exact ⟨0, rfl, rfl, by omega, by omega, Below.refl _ _, rfl⟩
      case round =>
        clear x1
        obtain ⟨r, rfl, rfl, hrc, hrg, hbl, hah⟩ := hrel
        have hb0 : Below wo.heap.size wo wr := HXX.out.1.trans (hbl.mono HXX.out.1.size)
        have hm2 := HMM.out.1.below hb0
        have hx2 := (hbl.block X (Array.getElem?_eq_some_iff.1 HXX.out.2).1).trans HXX.out.2
        have H2 := Lib.hid (And.intro hb0 (And.intro hm2 hx2))
        have HBW := Lib.hid hbl
        by_cases hlt : r < cr
        · obtain ⟨F, hF⟩ : ∃ F, F = rowF li (r : Int) := ⟨_, rfl⟩
          have hrw := fun W (hb : Below wr.heap.size wr W) => row_calls (hm2.below hb) HFI.out (by show li.length ≤ _; have := HLEN.out; omega) (r : Int)
          simp only [← hF] at hrw
          have hoc := fun W => of_calls cs co HCF.out.1 HCF.out.2 W
          obtain ⟨M, hM⟩ : ∃ M, M = meetsB F (inS cs co) := ⟨_, rfl⟩
          have hme := fun W => meets_calls F (inS cs co) W
          simp only [← hM] at hme
          obtain ⟨d, hd⟩ : ∃ d, d = cr - r := ⟨_, rfl⟩
          have hstepA : ahead li ⟨ci, cr, cs, co⟩ (cr + 1 - r) r = if M = false then some r else ahead li ⟨ci, cr, cs, co⟩ (cr + 1 - (r + 1)) (r + 1) := by
            rw [show cr + 1 - r = (cr + 1 - (r + 1)) + 1 by omega, ahead, if_pos hlt]
            unfold freeAt
            rw [← hF, ← hM]
            cases M <;> simp
          rw [hstepA] at hah
          have HRW := Lib.hid hrw
          have HOC := Lib.hid hoc
          have HME := Lib.hid hme
          have HAH := Lib.hid hah
          have c1 : wr.cell? ⟨mb, 1, none⟩ = some (.slice (some ⟨g, 0, none⟩) L cap) := hm2.c1
          clear hF hrw hoc hM hme hd hstepA hah hb0 hm2 hbl
          have r1 : (r : Int) < (cr : Int) := by omega
          go_wp2_with fail
          refine Thr.drawn [(0, false), (1, false), (3, false), (4, false), (2, true), (5, true), (6, true), (7, false)] 8
            (fun w' => w'.heap[X]? = some (.cells #[.int .u32 (ci : Int), .int .i64 (cr : Int), .int .i64 (cs : Int), .int .i64 (co : Int)] 34 (0, 0))) (by kernel_rfl) (by kernel_rfl) (fun c a w d v h => by cases d <;> exact h) hx2 ?_
          simp only [Thr.pick, Array.reduceGetElem?]
          iterate 4
            apply Thr.read rfl
            · intro w' hS
              have s2 : w'.cell? ⟨X, 2, none⟩ = some (.int .i64 (cs : Int)) := by simp [World.cell?, hS]
              have s3 : w'.cell? ⟨X, 3, none⟩ = some (.int .i64 (co : Int)) := by simp [World.cell?, hS]
              go_simp
              try with_reducible rfl
            simp only [Act.put, List.setIfInBounds_toArray, List.set_cons_zero, List.set_cons_succ]
          apply Thr.act rfl
          intro K hK
          go_simp
          refine (HRW.out _ (below_drewN' wr 1)).mono ?_
          rintro e w4 ⟨rfl, hb4⟩
          have hW4 : Below wr.heap.size wr w4 := (below_drewN' wr 1).trans hb4
          replace hx2 := (hW4.block X (Array.getElem?_eq_some_iff.1 hx2).1).trans hx2
          refine hK _ _ hx2 ?_
          clear hK K hb4
          try simp only [Act.put, List.setIfInBounds_toArray, List.set_cons_zero, List.set_cons_succ]
          apply Thr.act rfl
          intro K hK
          go_simp
          refine (HOC.out _).mono ?_
          rintro e w5 ⟨rfl, hb5⟩
          replace hx2 := (hb5.block X (Array.getElem?_eq_some_iff.1 hx2).1).trans hx2
          refine hK _ _ hx2 ?_
          clear hK K
          try simp only [Act.put, List.setIfInBounds_toArray, List.set_cons_zero, List.set_cons_succ]
          apply Thr.act rfl
          intro K hK
          go_simp
          refine (HME.out _).mono ?_
          rintro e w6 ⟨rfl, hb6⟩
          replace hx2 := (hb6.block X (Array.getElem?_eq_some_iff.1 hx2).1).trans hx2
          refine hK _ _ hx2 ?_
          clear hK K
          try simp only [Act.put, List.setIfInBounds_toArray, List.set_cons_zero, List.set_cons_succ]
          apply Thr.read rfl
          · intro w' hS
            go_simp
            try with_reducible rfl
          simp only [Act.put, List.setIfInBounds_toArray, List.set_cons_zero, List.set_cons_succ]
          refine Thr.done ?_
          have hW6 : Below wr.heap.size wr w6 := (hW4.trans (hb5.mono hW4.size)).trans (hb6.mono (hW4.trans (hb5.mono hW4.size)).size)
          have hm6 := H2.out.2.1.below hW6
          have H6 := Lib.hid (And.intro hW6 (And.intro hm6 hx2))
          have c6 : w6.cell? ⟨mb, 1, none⟩ = some (.slice (some ⟨g, 0, none⟩) L cap) := hm6.c1
          clear hW4 hb5 hb6 hx2 hW6 hm6 c1
          cases M with
          | true =>
            clear c6
            go_wp2_with fail
            rw [show (r : Int) + 1 = ((r + 1 : Nat) : Int) by omega]
            go_roundg (gk - 1)
            case measure => omega
            case rel => exact ⟨r + 1, rfl, rfl, by omega, by omega, HBW.out.trans (H6.out.1.mono HBW.out.size), by have := HAH.out; simpa using this⟩
          | false =>
            have hgo : goAhead li ⟨ci, cr, cs, co⟩ = some r := by have := HAH.out; simpa using this
            have hst2 := HSTEP.out
            rw [hgo] at hst2
            have hm6 := H6.out.2.1
            obtain ⟨hm7, hs7⟩ := MatAt.row_set (m := { m with cells := li }) (g := g) (cap := cap) (by show MatAt w6 mb (.slice _ li.length cap) _; rw [HLEN.out]; exact hm6) i ⟨ci, cr, cs, co⟩ HCC.out r
            rw [show ({ m with cells := li } : Mx).cells.length = L from HLEN.out] at hm7 hs7
            have hcl := hm6.own
            simp only at hcl
            obtain ⟨e0, e1, e2, e3⟩ := hcl.four (by rw [HLEN.out]) i _ HCC.out
            have ef : w6.frozen? ⟨g, i * 4 + 1, none⟩ = false := by
              have hh := hm6.own
              simp only at hh
              rw [← HLEN.out] at hh
              exact OwnC.row_frozen hh _
            have hsw : MStep w mb (.slice (some ⟨g, 0, none⟩) L cap) w6 (.slice (some ⟨g, 0, none⟩) L cap) := (HMM.out.2.later H2.out.1).later H6.out.1
            have H7 := Lib.hid (And.intro hm7 (And.intro (hsw.trans hs7) hst2))
            clear hgo hst2 hm6 hm7 hs7 hcl e0 e2 e3 hsw
            go_wp2_with fail
            rw [show (n : Int) + 1 = ((n + 1 : Nat) : Int) by omega, show (i : Int) + 1 = ((i + 1 : Nat) : Int) by omega]
            go_roundg (go - 1)
            case measure => omega
            case rel =>
              have h9 := H7.out.2.2
              refine ⟨i + 1, by rw [h9, HN.out], rfl, by omega, by omega, ?_, H7.out.2.1⟩
              rw [h9]
              exact H7.out.1
        · have hgo : goAhead li ⟨ci, cr, cs, co⟩ = none := by
            obtain rfl : r = cr := by omega
            rw [hah, show r + 1 - r = 1 by omega, ahead, if_neg (by simp)]
          have hst2 := HSTEP.out
          rw [hgo] at hst2
          have H7 := Lib.hid hst2
          clear hgo hst2 hah hbl hb0 hm2 hx2
          go_wp2_with fail
          rw [show (i : Int) + 1 = ((i + 1 : Nat) : Int) by omega]
          go_roundg (go - 1)
          case measure => omega
          case rel =>
            have h9 := H7.out
            refine ⟨i + 1, by rw [h9, HN.out], rfl, by omega, by omega, ?_, HMM.out.2.later H2.out.1⟩
            rw [h9, ← HLI.out]
            exact H2.out.2.1
    · obtain ⟨l1, hl1⟩ : ∃ l1, l1 = (passU m.cells L).1 := ⟨_, rfl⟩
      have hiL' : i = L := by omega
      subst hiL'
      rw [← hl1] at hm
      have hlen : l1.length = i := by rw [hl1, passU_len, ← HL.out]
      have hso := sortm_calls hm (by show l1.length ≤ _; omega)
      have HSO := Lib.hid hso
      have HST := Lib.hid hst
      have HL1 := Lib.hid (And.intro hl1 hlen)
      have hrw : ∀ c ∈ l1, c.row < 1000 := by rw [hl1]; exact passU_rows HROW.out i
      have HRW := Lib.hid hrw
      have qn : ¬ (i < i) := Nat.lt_irrefl i
      clear hm hso hst hl1 hlen hrw hlt
      go_wp2_with fail
      refine HSO.out.mono ?_
      rintro e w2 ⟨rfl, l2, hp, hs2, hm2, hst2⟩
      have hst3 := HST.out.trans hst2
      have hl2 : l2.length = i := hp.length_eq.trans HL1.out.2
      have c1 : w2.cell? ⟨mb, 1, none⟩ = some (.slice a i cap) := hm2.c1
      have HP := Lib.hid (And.intro hp (And.intro hs2 hl2))
      have HM2 := Lib.hid (And.intro hm2 hst3)
      have HR2 : Hid (∀ c ∈ l2, c.row < 1000) := Lib.hid fun c hc => HRW.out c (hp.subset hc)
      clear hp hs2 hm2 hst2 hst3 hl2 HSO
      go_wp2_with fail
      obtain ⟨wo, rfl⟩ : ∃ wo : World, wo = wr := ⟨_, rfl⟩
      go_loopg [7, 8, 9, 56] 1001 (fun q s7 s8 s9 s56 wr => ∃ (j cnt act : Nat) (last x : Int) (dn : List Cel), s7 = .int .i64 last ∧ s8 = .int .i64 x ∧ s9 = .int .i64 (act : Int) ∧ s56 = .int .i64 (j : Int) ∧ x = (cnt : Int) - 1 ∧ j ≤ i ∧ i - j ≤ q ∧ dn.length = j ∧ cnt ≤ j ∧ (last = -1 ∨ 1 ≤ cnt) ∧
        MatAt wr mb (Value.slice a i cap) { m with cells := dn ++ l2.drop j } ∧ MStep w mb (Value.slice a i cap) wr (Value.slice a i cap) ∧ renU m.act l2 (-1) 0 0 = (dn ++ (renU m.act (l2.drop j) last cnt act).1, (renU m.act (l2.drop j) last cnt act).2))
      case atStart => exact ⟨0, 0, 0, -1, -1, [], rfl, rfl, rfl, rfl, by omega, by omega, by omega, rfl, Nat.le_refl _, .inl rfl, HM2.out.1, HM2.out.2, by simp⟩
      case round =>
        clear c1
        obtain ⟨j, cnt, act, last, x, dn, rfl, rfl, rfl, rfl, hxc, hji, hjg, hdn, hcj, hlc, hm, hst, hre⟩ := hrel
        by_cases hlt : j < i
        · obtain ⟨g, rfl⟩ := HG.out.resolve_left (by have := HL.out; omega)
          have hl2 := HP.out.2.2
          obtain ⟨c, hc⟩ : ∃ c, l2[j]? = some c := ⟨_, List.getElem?_eq_getElem (by omega)⟩
          have hdrop : l2.drop j = c :: l2.drop (j + 1) := by
            have : l2[j]'(by omega) = c := (List.getElem?_eq_some_iff.1 hc).2
            rw [← this, List.getElem_cons_drop]
          obtain ⟨cur, hcur⟩ : ∃ cur, cur = dn ++ l2.drop j := ⟨_, rfl⟩
          have hcl : cur.length = i := by rw [hcur, List.length_append, List.length_drop]; omega
          have hcc : cur[j]? = some c := by rw [hcur, List.getElem?_append_right (by omega), hdn, Nat.sub_self, hdrop]; rfl
          rw [← hcur] at hm
          have hown := hm.own
          simp only at hown
          obtain ⟨f0, f1, f2, f3⟩ := hown.four (by rw [hcl]) j c hcc
          have hcr := HR2.out c (List.mem_of_getElem? hc)
          have hset : ∀ r, cur.set j { c with row := r } = (dn ++ [{ c with row := r }]) ++ l2.drop (j + 1) := fun r => by
            rw [hcur, List.set_append_right _ _ (by omega), hdn, Nat.sub_self, hdrop, List.append_assoc]
            rfl
          rw [hdrop] at hre
          have hun : renU m.act (c :: l2.drop (j + 1)) last cnt act = ({ c with row := (if (c.row : Int) = last then cnt else cnt + 1) - 1 } :: (renU m.act (l2.drop (j + 1)) c.row (if (c.row : Int) = last then cnt else cnt + 1) (if c.row = m.act then (if (c.row : Int) = last then cnt else cnt + 1) - 1 else act)).1, (renU m.act (l2.drop (j + 1)) c.row (if (c.row : Int) = last then cnt else cnt + 1) (if c.row = m.act then (if (c.row : Int) = last then cnt else cnt + 1) - 1 else act)).2) := rfl
          rw [hun] at hre
          obtain ⟨X, hX⟩ : ∃ X, X = wr.heap.size := ⟨_, rfl⟩
          obtain ⟨WX, hWX⟩ : ∃ WX, WX = wr.alloc (.cells #[.int .u32 (c.id : Int), .int .i64 (c.row : Int), .int .i64 (c.s : Int), .int .i64 (c.o : Int)] 34) := ⟨_, rfl⟩
          have hbX : Below wr.heap.size wr WX := by rw [hWX]; exact below_alloc' _ _
          have hx : WX.heap[X]? = some (.cells #[.int .u32 (c.id : Int), .int .i64 (c.row : Int), .int .i64 (c.s : Int), .int .i64 (c.o : Int)] 34 (0, 0)) := by rw [hWX, hX]; exact box_heap _ _ _
          have hmX := hm.below hbX
          have x1 : WX.cell? ⟨X, 1, none⟩ = some (.int .i64 (c.row : Int)) := by simp [World.cell?, hx]
          have m1 : WX.cell? ⟨mb, 1, none⟩ = some (.slice (some ⟨g, 0, none⟩) i cap) := hmX.c1
          have m2 : WX.cell? ⟨mb, 2, none⟩ = some (.int .i64 (m.act : Int)) := hmX.c2
          have hputs : ∀ r W, Below WX.heap.size WX W → MatAt (W.setCell ⟨g, j * 4 + 1, none⟩ (.int .i64 ((r : Nat) : Int))) mb (.slice (some ⟨g, 0, none⟩) i cap) { m with cells := (dn ++ [{ c with row := r }]) ++ l2.drop (j + 1) } ∧ MStep w mb (.slice (some ⟨g, 0, none⟩) i cap) (W.setCell ⟨g, j * 4 + 1, none⟩ (.int .i64 ((r : Nat) : Int))) (.slice (some ⟨g, 0, none⟩) i cap) := fun r W hb => by
            have hmW := hmX.below hb
            obtain ⟨hm7, hs7⟩ := MatAt.row_set (m := { m with cells := cur }) (g := g) (cap := cap) (by show MatAt W mb (.slice _ cur.length cap) _; rw [hcl]; exact hmW) j c hcc r
            rw [show ({ m with cells := cur } : Mx).cells.length = i from hcl] at hm7 hs7
            rw [← hset r]
            exact ⟨hm7, ((hst.later hbX).later hb).trans hs7⟩
          have hfz : ∀ W, Below WX.heap.size WX W → W.frozen? ⟨g, j * 4 + 1, none⟩ = false ∧ W.cell? ⟨g, j * 4 + 1, none⟩ = some (.int .i64 (c.row : Int)) := fun W hb => by
            have hh := (hmX.below hb).own
            simp only at hh
            refine ⟨?_, (hh.four (by rw [hcl]) j c hcc).2.1⟩
            rw [← hcl] at hh
            exact OwnC.row_frozen hh _
          have HPUT := Lib.hid hputs
          have HFZ := Lib.hid hfz
          have HRE := Lib.hid hre
          have HX := Lib.hid hX
          have HWX := Lib.hid hWX
          have HDN := Lib.hid hdn
          have j0 : (0 : Int) ≤ (j : Int) := by omega
          have j1 : (j : Int) < (i : Int) := by omega
          obtain ⟨ci, cr, cs, co⟩ := c
          simp only at f0 f1 f2 f3 hcr x1
          clear hl2 hc hdrop hcur hcl hcc hm hst hown hset hun hre hX hWX hbX hx hmX hputs hfz hdn hlt
          have b1 : -1 ≤ x := by omega
          have b2 : x ≤ 1000 := by omega
          go_upto_region 20 with (fail)
          rw [← HWX.out, ← HX.out]
          clear f0 f1 f2 f3
          by_cases hrw : (cr : Int) = last
          · subst hrw
            have g1 : ((cr : Int) != (cr : Int)) = false := by rw [bne_eq_false_iff_eq]
            have hcnt : 1 ≤ cnt := by omega
            by_cases hac : cr = m.act
            · have g2 : ((cr : Int) == (m.act : Int)) = true := by rw [beq_iff_eq]; omega
              have HAC := Lib.hid hac
              clear hac
              go_wp2_with fail
              go_quiet (fail)
              obtain ⟨z1, z2⟩ := HFZ.out (WX.drewN nq) (below_drewN' WX nq)
              have HPQ := Lib.hid (HPUT.out (cnt - 1) (WX.drewN nq) (below_drewN' WX nq))
              have mq : (WX.drewN nq).cell? ⟨mb, 1, none⟩ = some (.slice (some ⟨g, 0, none⟩) i cap) := m1
              generalize WX.drewN nq = WQ at *
              clear x1 m1 m2
              go_wp2_with fail
              rw [show (j : Int) + 1 = ((j + 1 : Nat) : Int) by omega]
              rw [show (cnt : Int) - 1 = ((cnt - 1 : Nat) : Int) by omega]
              go_roundg (gk - 1)
              case measure => omega
              case rel =>
                have hre := HRE.out
                simp only [if_true, if_pos HAC.out] at hre
                refine ⟨j + 1, cnt, (cnt - 1), (cr : Int), ((cnt - 1 : Nat) : Int), dn ++ [⟨ci, cnt - 1, cs, co⟩], rfl, rfl, rfl, rfl, by omega, by omega, by omega, by simp [HDN.out], by omega, .inr (by omega), HPQ.out.1, HPQ.out.2, ?_⟩
                rw [hre, List.append_assoc]
                rfl
            · have g2 : ((cr : Int) == (m.act : Int)) = false := by rw [beq_eq_false_iff_ne]; omega
              go_wp2_with fail
              go_quiet (fail)
              obtain ⟨z1, z2⟩ := HFZ.out (WX.drewN nq) (below_drewN' WX nq)
              have HPQ := Lib.hid (HPUT.out (cnt - 1) (WX.drewN nq) (below_drewN' WX nq))
              have mq : (WX.drewN nq).cell? ⟨mb, 1, none⟩ = some (.slice (some ⟨g, 0, none⟩) i cap) := m1
              generalize WX.drewN nq = WQ at *
              clear x1 m1 m2
              go_wp2_with fail
              rw [show (j : Int) + 1 = ((j + 1 : Nat) : Int) by omega]
              rw [show (cnt : Int) - 1 = ((cnt - 1 : Nat) : Int) by omega]
              go_roundg (gk - 1)
              case measure => omega
              case rel =>
                have hre := HRE.out
                simp only [if_true, if_neg hac] at hre
                refine ⟨j + 1, cnt, act, (cr : Int), ((cnt - 1 : Nat) : Int), dn ++ [⟨ci, cnt - 1, cs, co⟩], rfl, rfl, rfl, rfl, by omega, by omega, by omega, by simp [HDN.out], by omega, .inr (by omega), HPQ.out.1, HPQ.out.2, ?_⟩
                rw [hre, List.append_assoc]
                rfl
          · have g1 : ((cr : Int) != last) = true := by rw [bne_iff_ne]; exact hrw
            by_cases hac : cr = m.act
            · have g2 : ((cr : Int) == (m.act : Int)) = true := by rw [beq_iff_eq]; omega
              have HAC := Lib.hid hac
              clear hac
              go_wp2_with fail
              go_quiet (fail)
              obtain ⟨z1, z2⟩ := HFZ.out (WX.drewN nq) (below_drewN' WX nq)
              have HPQ := Lib.hid (HPUT.out (cnt) (WX.drewN nq) (below_drewN' WX nq))
              have mq : (WX.drewN nq).cell? ⟨mb, 1, none⟩ = some (.slice (some ⟨g, 0, none⟩) i cap) := m1
              generalize WX.drewN nq = WQ at *
              clear x1 m1 m2
              go_wp2_with fail
              rw [show (j : Int) + 1 = ((j + 1 : Nat) : Int) by omega]
              go_roundg (gk - 1)
              case measure => omega
              case rel =>
                have hre := HRE.out
                simp only [if_neg hrw, if_pos HAC.out, Nat.add_sub_cancel] at hre
                refine ⟨j + 1, (cnt + 1), cnt, (cr : Int), (cnt : Int), dn ++ [⟨ci, cnt, cs, co⟩], rfl, rfl, rfl, rfl, by omega, by omega, by omega, by simp [HDN.out], by omega, .inr (by omega), HPQ.out.1, HPQ.out.2, ?_⟩
                rw [hre, List.append_assoc]
                rfl
            · have g2 : ((cr : Int) == (m.act : Int)) = false := by rw [beq_eq_false_iff_ne]; omega
              go_wp2_with fail
              go_quiet (fail)
              obtain ⟨z1, z2⟩ := HFZ.out (WX.drewN nq) (below_drewN' WX nq)
              have HPQ := Lib.hid (HPUT.out (cnt) (WX.drewN nq) (below_drewN' WX nq))
              have mq : (WX.drewN nq).cell? ⟨mb, 1, none⟩ = some (.slice (some ⟨g, 0, none⟩) i cap) := m1
              generalize WX.drewN nq = WQ at *
              clear x1 m1 m2
              go_wp2_with fail
              rw [show (j : Int) + 1 = ((j + 1 : Nat) : Int) by omega]
              go_roundg (gk - 1)
              case measure => omega
              case rel =>
                have hre := HRE.out
                simp only [if_neg hrw, if_neg hac, Nat.add_sub_cancel] at hre
                refine ⟨j + 1, (cnt + 1), act, (cr : Int), (cnt : Int), dn ++ [⟨ci, cnt, cs, co⟩], rfl, rfl, rfl, rfl, by omega, by omega, by omega, by simp [HDN.out], by omega, .inr (by omega), HPQ.out.1, HPQ.out.2, ?_⟩
                rw [hre, List.append_assoc]
                rfl
        · have hji2 : j = i := by omega
          have hd0 : l2.drop j = [] := List.drop_eq_nil_of_le (by have := HP.out.2.2; omega)
          rw [hd0] at hm hre
          have hre2 : renU m.act l2 (-1) 0 0 = (dn, act) := by rw [hre]; simp [renU]
          rw [List.append_nil] at hm
          obtain ⟨hmA, hsA⟩ := hm.setAct act
          have c2 := hm.c2
          have f2 := hm.frozen 2
          have HF := Lib.hid (And.intro hre2 (And.intro hmA (hst.trans hsA)))
          have qn2 : ¬ (j < i) := hlt
          clear hre hre2 hd0 hm hmA hsA hst hdn hji2 hlt hxc hlc
          go_wp2_with fail
          go_ret
          obtain ⟨h1, h2, h3⟩ := HF.out
          have hp := HP.out
          refine ⟨⟨m.n, dn, act⟩, n, _, rfl, ⟨l2, ?_, hp.2.1, by rw [h1], by rw [HN.out, HL.out]⟩, h2, by rw [← HL.out]; exact h3⟩
          rw [← HL.out, ← HL1.out.1]
          exact hp.1
end Go.Proofs.Ytnokmbjgfglaoaa
