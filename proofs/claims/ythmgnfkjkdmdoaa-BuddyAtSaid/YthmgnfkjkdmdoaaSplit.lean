/- Contract: split. -/
import Derived.Test.YthmgnfkjkdmdoaaOpen2
import Derived.Deep.RegionHeld3
import Derived.Deep.DeepCutAuto
set_option linter.unusedSimpArgs false
set_option linter.unusedVariables false
namespace Go.Proofs.Ythmgnfkjkdmdoaa
open Go Go.RowKit Bud

theorem under31 : Try.prog.underlying 31 = some (.struct (Try.prog.fieldsOf 31)) := by kernel_rfl
theorem stood31 : Try.prog.stoodInHeld 31 = false := by kernel_rfl

theorem neq_blk (a b c d : Int) (w : World) : (binOp .neq 31 (.agg #[.int .i64 a, .int .i64 b]) (.agg #[.int .i64 c, .int .i64 d])).run Try.prog w = .ok (.bool (!(a == c && b == d))) w := by
  have u3 := Try.underlying3
  have a3 := Try.isAgg3
  have z3 := Try.sizeOf3
  rw [run_neq_struct, show (10000 : Nat) = 9999 + 1 from rfl, run_equalIn_agg w 9999 31 _ _ under31 stood31]
  simp only [Program.fieldsOf, Try.underlying31]
  go_simp
  by_cases h1 : a = c <;> by_cases h2 : b = d <;> simp [h1, h2]

theorem halveF_eq (f : Nat → List Nat) (s o : Nat) : halveF f s s o o = f := by
  cases o with
  | zero => rfl
  | succ o => rw [halveF, if_pos ⟨rfl, rfl⟩]
theorem halveF_up (f : Nat → List Nat) (s ps po o : Nat) (h : ¬ (s = ps ∧ o + 1 = po)) (h2 : s + 2 ^ o ≤ ps) : halveF f s ps po (o + 1) = halveF (upd f o (insK id s (f o))) (s + 2 ^ o) ps po o := by
  rw [halveF, if_neg h, if_pos h2]
theorem halveF_low (f : Nat → List Nat) (s ps po o : Nat) (h : ¬ (s = ps ∧ o + 1 = po)) (h2 : ¬ s + 2 ^ o ≤ ps) : halveF f s ps po (o + 1) = halveF (upd f o (insK id (s + 2 ^ o) (f o))) s ps po o := by
  rw [halveF, if_neg h, if_neg h2]

theorem halve_zero {s ps po : Nat} (he : ps / 2 ^ 0 = s / 2 ^ 0) (hpo : po ≤ 0) : s = ps ∧ 0 = po := by
  simp at he
  omega

/-- The arithmetic of one halving. -/
theorem halve_arith {s ps po o : Nat} (ha : s % 2 ^ (o + 1) = 0) (hpa : ps % 2 ^ po = 0) (hpo : po ≤ o + 1) (he : ps / 2 ^ (o + 1) = s / 2 ^ (o + 1)) (h : ¬ (s = ps ∧ o + 1 = po)) :
    po ≤ o ∧ s % 2 ^ o = 0 ∧ (s + 2 ^ o) % 2 ^ o = 0 ∧ (s + 2 ^ o ≤ ps → ps / 2 ^ o = (s + 2 ^ o) / 2 ^ o) ∧ (¬ s + 2 ^ o ≤ ps → ps / 2 ^ o = s / 2 ^ o) := by
  have hpo' : po ≤ o := by
    rcases Nat.lt_or_ge o po with hlt | hge
    · obtain rfl : po = o + 1 := by omega
      exact absurd ⟨(aligned_eq hpa ha he).symm, rfl⟩ h
    · exact hge
  have hpw := pow_pos' o
  obtain ⟨i, hi⟩ : ∃ i, s / 2 ^ (o + 1) = i := ⟨_, rfl⟩
  have es : s = (2 * i) * 2 ^ o := by rw [← aligned s (o + 1) ha, hi, Nat.pow_succ, Nat.mul_comm (2 ^ o) 2, ← Nat.mul_assoc, Nat.mul_comm i 2]
  have es2 : s + 2 ^ o = (2 * i + 1) * 2 ^ o := by rw [es, Nat.add_mul, Nat.one_mul]
  have d1 : s / 2 ^ o = 2 * i := by rw [es, at_div]
  have d2 : (s + 2 ^ o) / 2 ^ o = 2 * i + 1 := by rw [es2, at_div]
  have hps : ps / 2 ^ o = 2 * i ∨ ps / 2 ^ o = 2 * i + 1 := by
    rw [hi, div_succ] at he
    omega
  refine ⟨hpo', by rw [es, Nat.mul_mod_left], by rw [es2, Nat.mul_mod_left], fun hge => ?_, fun hge => ?_⟩
  · rcases hps with e | e
    · exfalso
      have := Nat.div_add_mod ps (2 ^ o)
      have h2 := Nat.mod_lt ps hpw
      rw [e, Nat.mul_comm, ← es] at this
      omega
    · rw [e, d2]
  · rcases hps with e | e
    · rw [e, d1]
    · exfalso
      have := Nat.div_add_mod ps (2 ^ o)
      rw [e, Nat.mul_comm, ← es2] at this
      omega

theorem Step.le {w w1 : World} {yb : Nat} {cs cs1 : Array Value} (h : Step w yb cs w1 cs1) : w.heap.size ≤ w1.heap.size := h.keeps.size
theorem two_set1 {w : World} {B : Nat} {a b d : Value} {t : TypeId} (h : w.heap[B]? = some (.cells #[a, b] t (0, 0))) : (w.setCell ⟨B, 1, none⟩ d).heap[B]? = some (.cells #[a, d] t (0, 0)) := by
  simp [World.setCell, Array.getElem?_modify, h]

set_option maxHeartbeats 4000000 in
set_option maxRecDepth 100000 in
theorem split_calls {w : World} {yb : Nat} {cs : Array Value} {y : Yd} (h : YardAt w yb cs y) (s o ps po : Nat) (ho : o ≤ y.n) (hs : s + 2 ^ o ≤ 2048) (hm : s ∈ y.free o) (ha : s % 2 ^ o = 0) (hpa : ps % 2 ^ po = 0) (hpo : po ≤ o) (hin : ps / 2 ^ o = s / 2 ^ o)
    (hsrt : ∀ q, SortK id (y.free q)) (hl : ∀ q, (y.free q).length + 11 ≤ 1073741824) :
    Calls Try.prog 43 #[.pointer (some ⟨yb, 0, none⟩), .agg #[.int .i64 (s : Int), .int .i64 (o : Int)], .agg #[.int .i64 (ps : Int), .int .i64 (po : Int)]] w fun e w' => e = .returned (.tuple #[]) ∧
      ∃ cs', YardAt w' yb cs' { y with free := splitF y.free s o ps po } ∧ Step w yb cs w' cs' := by
  have hle := h.le
  have hlift := fun W (hW : YardAt W yb cs y) => lift_calls hW ⟨s, o⟩ ho (hsrt o) hm (by have := hl o; simp only; omega)
  have hps : ps < 2048 := by
    have h1 := Nat.div_add_mod ps (2 ^ o)
    have h2 := Nat.mod_lt ps (pow_pos' o)
    rw [hin, Nat.mul_comm, aligned s o ha] at h1
    omega
  obtain ⟨B, hB⟩ : ∃ B, B = w.heap.size := ⟨_, rfl⟩
  have hb1 : ((w.alloc (.cells #[.int .i64 (s : Int), .int .i64 (o : Int)] 31)).alloc (.cells #[.int .i64 (ps : Int), .int .i64 (po : Int)] 31)).heap[B]? = some (.cells #[.int .i64 (s : Int), .int .i64 (o : Int)] 31 (0, 0)) := by
    rw [hB, heap_alloc_old _ _ (by simp)]; exact box_heap _ _ _
  have hb2 : ((w.alloc (.cells #[.int .i64 (s : Int), .int .i64 (o : Int)] 31)).alloc (.cells #[.int .i64 (ps : Int), .int .i64 (po : Int)] 31)).heap[B + 1]? = some (.cells #[.int .i64 (ps : Int), .int .i64 (po : Int)] 31 (0, 0)) := by
    have := box_heap (w.alloc (.cells #[.int .i64 (s : Int), .int .i64 (o : Int)] 31)) #[.int .i64 (ps : Int), .int .i64 (po : Int)] 31
    rwa [show (w.alloc (.cells #[.int .i64 (s : Int), .int .i64 (o : Int)] 31)).heap.size = B + 1 by simp [hB]] at this
  have hy := (h.alloc (.cells #[.int .i64 (s : Int), .int .i64 (o : Int)] 31)).alloc (.cells #[.int .i64 (ps : Int), .int .i64 (po : Int)] 31)
  have hst := ((Step.refl w yb cs).alloc (.cells #[.int .i64 (s : Int), .int .i64 (o : Int)] 31)).alloc (.cells #[.int .i64 (ps : Int), .int .i64 (po : Int)] 31)
  have hnf : ∀ k, B ≤ k → ¬ foot yb cs k := fun k hk hf => by have := h.foot_lt k hf; omega
  have hl1 := hlift _ hy
  have HB := Lib.hid hB
  have hsplit : splitF y.free s o ps po = halveF (upd y.free o (delK id s (y.free o))) s ps po o := rfl
  rw [hsplit]
  replace hl1 : Calls Try.prog 67 #[.pointer (some ⟨yb, 0, none⟩), .agg #[.int .i64 (s : Int), .int .i64 (o : Int)]] ((w.alloc (.cells #[.int .i64 (s : Int), .int .i64 (o : Int)] 31)).alloc (.cells #[.int .i64 (ps : Int), .int .i64 (po : Int)] 31)) fun e w' => e = .returned (.tuple #[]) ∧ ∃ cs', YardAt w' yb cs' { y with free := upd y.free o (delK id s (y.free o)) } ∧ Step ((w.alloc (.cells #[.int .i64 (s : Int), .int .i64 (o : Int)] 31)).alloc (.cells #[.int .i64 (ps : Int), .int .i64 (po : Int)] 31)) yb cs w' cs' := hl1
  have hf1 : (∀ q, SortK id (upd y.free o (delK id s (y.free o)) q)) ∧ ∀ q, (upd y.free o (delK id s (y.free o)) q).length + 11 ≤ 1073741824 := by
    refine ⟨fun q => ?_, fun q => ?_⟩
    · by_cases hq : q = o
      · subst hq; rw [upd_same]; exact sort_delK id (hsrt q)
      · rw [upd_other _ hq]; exact hsrt q
    · by_cases hq : q = o
      · subst hq; rw [upd_same]; have := (delK_sublist id s (y.free q)).length_le; have := hl q; omega
      · rw [upd_other _ hq]; exact hl q
  generalize upd y.free o (delK id s (y.free o)) = f1 at *
  clear hlift hsplit
  go_enter Try.func43, Try.ntmps43
  go_wp2_with fail
  rw [← hB]
  clear hB
  refine hl1.mono ?_
  rintro e w1 ⟨rfl, c1, hy1, hst1⟩
  have hBl : B + 1 < ((w.alloc (.cells #[.int .i64 (s : Int), .int .i64 (o : Int)] 31)).alloc (.cells #[.int .i64 (ps : Int), .int .i64 (po : Int)] 31)).heap.size := (Array.getElem?_eq_some_iff.1 hb2).1
  replace hb1 := (hst1.keeps.block B (by omega) (hnf B (Nat.le_refl _))).trans hb1
  replace hb2 := (hst1.keeps.block (B + 1) hBl (hnf (B + 1) (by omega))).trans hb2
  have hn1 := hst1.notFoot (B := B) (by omega) (hnf B (Nat.le_refl _))
  have hn2 := hst1.notFoot hBl (hnf (B + 1) (by omega))
  replace hst := hst.trans hst1
  clear hl1 hsrt hl hm hnf hst1 hy
  go_wp2_with fail
  go_loopg [] o (fun g wr => ∃ (sk ok : Nat) (fk : Nat → List Nat) (ck : Array Value), wr.heap[B]? = some (.cells #[.int .i64 (sk : Int), .int .i64 (ok : Int)] 31 (0, 0)) ∧ wr.heap[B + 1]? = some (.cells #[.int .i64 (ps : Int), .int .i64 (po : Int)] 31 (0, 0)) ∧
    YardAt wr yb ck { y with free := fk } ∧ Step w yb cs wr ck ∧ ¬ foot yb ck B ∧ ¬ foot yb ck (B + 1) ∧ ok ≤ y.n ∧ sk + 2 ^ ok ≤ 2048 ∧ sk % 2 ^ ok = 0 ∧ po ≤ ok ∧ ps / 2 ^ ok = sk / 2 ^ ok ∧ halveF fk sk ps po ok = halveF f1 s ps po o ∧
    (∀ q, SortK id (fk q)) ∧ (∀ q, (fk q).length + ok ≤ 1073741824) ∧ ok ≤ g)
  case atStart => exact ⟨s, o, f1, c1, hb1, hb2, hy1, hst, hn1, hn2, ho, hs, ha, hpo, hin, rfl, hf1.1, fun q => by have := hf1.2 q; omega, Nat.le_refl _⟩
  case round =>
    clear hb1 hb2 hy1 hst hn1 hn2 hs ha hpo hin hf1 hBl
    obtain ⟨sk, ok, fk, ck, hb1, hb2, hy, hst, hn1, hn2, hok, hsk, hak, hpk, hik, hhv, hso, hln, hgk⟩ := hrel
    obtain ⟨c0, c1⟩ := two_cells hb1
    obtain ⟨p0, p1⟩ := two_cells hb2
    have HH := Lib.hid hhv
    clear hhv
    by_cases heq : sk = ps ∧ ok = po
    · obtain ⟨rfl, rfl⟩ := heq
      have hne : ∀ w, (binOp .neq 31 (.agg #[.int .i64 (sk : Int), .int .i64 (ok : Int)]) (.agg #[.int .i64 (sk : Int), .int .i64 (ok : Int)])).run Try.prog w = .ok (.bool false) w := fun w => by rw [neq_blk]; simp
      go_wp2_with fail
      go_end0
      refine ⟨rfl, ck, ?_, hst⟩
      rw [← HH.out, halveF_eq]
      exact hy
    · have hne : ∀ w, (binOp .neq 31 (.agg #[.int .i64 (sk : Int), .int .i64 (ok : Int)]) (.agg #[.int .i64 (ps : Int), .int .i64 (po : Int)])).run Try.prog w = .ok (.bool true) w := fun w => by
        rw [neq_blk]
        congr 2
        simp only [Bool.not_eq_true', Bool.and_eq_false_iff, beq_eq_false_iff_ne]
        omega
      obtain ⟨m, rfl⟩ : ∃ m, ok = m + 1 := by
        cases ok with
        | zero => exact absurd (halve_zero hik hpk) heq
        | succ m => exact ⟨m, rfl⟩
      have hf0 := two_frozen hb1 1
      obtain ⟨P, hP⟩ : ∃ P, P = 2 ^ m := ⟨_, rfl⟩
      have hPl : P ≤ 1024 := by rw [hP]; exact Nat.pow_le_pow_right (by omega) (show m ≤ 10 by omega)
      have hsz : ∀ W, Calls Try.prog 54 #[.int .i64 (m : Int)] W fun e w' => e = .returned (.int .i64 (P : Int)) ∧ w' = W := fun W => by rw [hP]; exact size_calls m (by omega) W
      have em : ((m + 1 : Nat) : Int) - 1 = (m : Int) := by omega
      have hb1' := two_set1 (d := .int .i64 (m : Int)) hb1
      have hb2' : (wr.setCell ⟨B, 1, none⟩ (.int .i64 (m : Int))).heap[B + 1]? = some (.cells #[.int .i64 (ps : Int), .int .i64 (po : Int)] 31 (0, 0)) := by rw [Below.heap_setCell _ _ _ _ (show B + 1 ≠ B by omega)]; exact hb2
      replace hy := hy.setOther ⟨B, 1, none⟩ (.int .i64 (m : Int)) hn1
      replace hst := hst.setNew ⟨B, 1, none⟩ (.int .i64 (m : Int)) (Nat.le_of_eq HB.out.symm)
      obtain ⟨hpm, hsm, hsm2, hup, hlow⟩ := halve_arith hak hpa hpk hik heq
      have hhu := halveF_up fk sk ps po m heq
      have hhl := halveF_low fk sk ps po m heq
      rw [← hP] at hhu hhl hsm hsm2 hup hlow
      have hP2 : 2 ^ (m + 1) = P + P := by rw [hP, Nat.pow_succ]; omega
      rw [hP2] at hsk
      have hPP : 0 < P := by rw [hP]; exact pow_pos' m
      have hbw := Step.le hst
      obtain ⟨W1, hW1⟩ : ∃ W1, W1 = wr.setCell ⟨B, 1, none⟩ (.int .i64 (m : Int)) := ⟨_, rfl⟩
      rw [← hW1] at hb1' hb2' hy hst
      have hy0 := hy
      obtain ⟨c0', c1'⟩ := two_cells hb1'
      obtain ⟨p0', p1'⟩ := two_cells hb2'
      have HHU := Lib.hid hhu
      have HHL := Lib.hid hhl
      have HP := Lib.hid hP
      have HPD := Lib.hid (show _ from (⟨hsm, hsm2, hup, hlow⟩ : _ ∧ _ ∧ _ ∧ _))
      clear hhu hhl hP hup hlow hsm hsm2 hP2 hik hak
      have hBl : B + 1 < W1.heap.size := (Array.getElem?_eq_some_iff.1 hb2').1
      obtain ⟨u, hu⟩ : ∃ u, u = sk + P := ⟨_, rfl⟩
      have hwl : IntKind.i64.wrap ((sk : Int) + (P : Int)) = (u : Int) := by rw [IntKind.wrap_i64]; omega
      have HU := Lib.hid hu
      clear hu
      by_cases hsp : (sk : Int) = (ps : Int)
      · have hmo : ¬ ((m : Int) + 1 = (po : Int)) := by omega
        obtain rfl : ps = sk := by omega
        go_wp2_with fail
        rw [← hW1]
        clear hb1 hb2 hf0 c0 c1 p0 p1 hW1
        go_cut [6] (fun s6 wx => s6 = .pointer (some ⟨W1.heap.size, 0, none⟩) ∧ wx = (W1.alloc (.cells #[.int .i64 (u : Int), .int .i64 (m : Int)] 31)).drew)
        case first =>
          go_region_held3 (fun w' => w'.cell? ⟨B, 0, none⟩ = some (.int .i64 (ps : Int)) ∧ w'.cell? ⟨B, 1, none⟩ = some (.int .i64 (m : Int))) (go_keep) (first | (go_at_call 54; refine (hsz _).mono ?_; rintro e w' ⟨rfl, rfl⟩))
          all_goals
            go_wp2_with fail
            go_meet
            exact ⟨rfl, rfl⟩
        case rest =>
          rename World => wx
          obtain ⟨rfl, hwx⟩ := hcut
          have hbl := below_alloc' W1 (.cells #[.int .i64 (u : Int), .int .i64 (m : Int)] 31)
          have hh := box_heap W1 #[.int .i64 (u : Int), .int .i64 (m : Int)] 31
          replace hb1 : _ = _ := (hbl.block B (by omega)).trans hb1'
          replace hb2 : _ = _ := (hbl.block (B + 1) (by omega)).trans hb2'
          replace hh : wx.heap[W1.heap.size]? = some (.cells #[.int .i64 (u : Int), .int .i64 (m : Int)] 31 (0, 0)) := by rw [hwx]; exact hh
          replace hb1 : wx.heap[B]? = some (.cells #[.int .i64 (ps : Int), .int .i64 (m : Int)] 31 (0, 0)) := by rw [hwx]; exact hb1
          replace hb2 : wx.heap[B + 1]? = some (.cells #[.int .i64 (ps : Int), .int .i64 (po : Int)] 31 (0, 0)) := by rw [hwx]; exact hb2
          replace hy : YardAt wx yb ck { y with free := fk } := by rw [hwx]; exact (hy.alloc _).drewN 1
          replace hst : Step w yb cs wx ck := by rw [hwx]; exact (hst.alloc _).drewN 1
          have hn3 : ¬ foot yb ck W1.heap.size := fun hf => by have := hy0.foot_lt _ hf; omega
          obtain ⟨H, hH⟩ : ∃ H, H = W1.heap.size := ⟨_, rfl⟩
          rw [← hH] at hh hn3 hBl ⊢
          clear hwx hbl c0' c1' p0' p1' hb1' hb2' hH hy0
          obtain ⟨c0, c1⟩ := two_cells hb1
          obtain ⟨p0, p1⟩ := two_cells hb2
          obtain ⟨d0, d1⟩ := two_cells hh
          have c2 := two_frozen hb1 0
          have c3 := two_frozen hb1 1
          have d2 := two_frozen hh 0
          have d3 := two_frozen hh 1
          go_upto_if 32 with fail
          go_cut [] (fun wy => ∃ bs hs : Nat, wy.heap[B]? = some (.cells #[.int .i64 (bs : Int), .int .i64 (m : Int)] 31 (0, 0)) ∧ wy.heap[B + 1]? = some (.cells #[.int .i64 (ps : Int), .int .i64 (po : Int)] 31 (0, 0)) ∧ wy.heap[H]? = some (.cells #[.int .i64 (hs : Int), .int .i64 (m : Int)] 31 (0, 0)) ∧
            YardAt wy yb ck { y with free := fk } ∧ Step w yb cs wy ck ∧ bs + P ≤ 2048 ∧ bs % P = 0 ∧ ps / P = bs / P ∧ hs < 2048 ∧ halveF (upd fk m (insK id hs (fk m))) bs ps po m = halveF f1 s ps po o)
          case first =>
            have hge : ¬ ((u : Int) ≤ (ps : Int)) := by
              have := HU.out
              omega
            go_wp2_with fail
            go_meet
            have hul := HU.out
            refine ⟨ps, u, hb1, hb2, hh, hy, hst, by omega, HPD.out.1, rfl, by omega, ?_⟩
            rw [← HH.out, HHL.out (by omega), HU.out]
          case rest =>
            rename World => W2
            obtain ⟨bs, hs, hb1, hb2, hh, hy, hst, hbs, hba, hbi, hhs, HHV⟩ := hcut
            replace HHV := Lib.hid HHV
            replace hba := Lib.hid hba
            replace hbi := Lib.hid hbi
            clear HHU HHL HPD HU d0 d1 c0 c1 p0 p1 c2 c3 d2 d3
            obtain ⟨c0, c1⟩ := two_cells hh
            obtain ⟨V, hV⟩ : ∃ V, V = at_ ck (1 + m) := ⟨_, rfl⟩
            obtain ⟨a, c, hf, hn, hc, hg⟩ := own_form (hy.free m (by omega))
            rw [← hV] at hf
            have HV := Lib.hid hV
            have ho1 : OwnN W2 (.slice a (fk m).length c) (fk m) := by rw [← hf, hV]; exact hy.free m (by omega)
            have c2 : W2.cell? ⟨yb, 1 + m, none⟩ = some (.slice a (fk m).length c) := by rw [← hf, hV]; exact hy.cell (1 + m) (by omega)
            have i0 : (0 : Int) ≤ (m : Int) := by omega
            have i1 : (m : Int) < 11 := by omega
            have HF := Lib.hid hf
            have hlm : (fk m).length ≤ 1073741824 := by have := hln m; omega
            clear hV hf hwl
            go_wp2_with fail
            refine Thr.drawn [(0, false), (1, false), (2, false), (3, false), (4, false), (5, false), (6, false), (7, false), (8, false), (9, true), (10, false), (11, false), (12, false), (13, false), (14, false)] 15
              (fun w' => w'.cell? ⟨H, 0, none⟩ = some (.int .i64 (hs : Int)) ∧ w'.cell? ⟨H, 1, none⟩ = some (.int .i64 (m : Int)) ∧ w'.cell? ⟨yb, 1 + m, none⟩ = some (.slice a (fk m).length c)) (by kernel_rfl) (by kernel_rfl) (fun c a w d v h => by cases d <;> exact h) ⟨c0, c1, c2⟩ ?_
            simp only [Thr.pick, Array.reduceGetElem?]
            iterate 9
              apply Thr.read rfl
              · intro w' hS
                go_simp
                (repeat rw [if_pos (by omega)])
                try with_reducible rfl
              simp only [Act.put, List.setIfInBounds_toArray, List.set_cons_zero, List.set_cons_succ]
            apply Thr.act rfl
            intro K hK
            go_simp
            refine (search_own (w := W2.drew) ho1 (hso m) (by have := hln m; omega) hs).mono ?_
            rintro e w' ⟨rfl, q1, rfl⟩
            refine hK _ _ ⟨c0, c1, c2⟩ ?_
            clear hK K
            try simp only [Act.put, List.setIfInBounds_toArray, List.set_cons_zero, List.set_cons_succ]
            iterate 5
              apply Thr.read rfl
              · intro w' hS
                go_simp
                (repeat rw [if_pos (by omega)])
                try with_reducible rfl
              simp only [Act.put, List.setIfInBounds_toArray, List.set_cons_zero, List.set_cons_succ]
            refine Thr.done ?_
            go_wp2_with fail
            replace hb1 : (W2.drew.drewN q1).heap[B]? = some (.cells #[.int .i64 (bs : Int), .int .i64 (m : Int)] 31 (0, 0)) := hb1
            replace hb2 : (W2.drew.drewN q1).heap[B + 1]? = some (.cells #[.int .i64 (ps : Int), .int .i64 (po : Int)] 31 (0, 0)) := hb2
            replace hy : YardAt (W2.drew.drewN q1) yb ck { y with free := fk } := hy.below ⟨rfl, rfl, rfl, Nat.le_refl _, fun _ _ => rfl⟩
            replace hst : Step w yb cs (W2.drew.drewN q1) ck := hst.below ⟨rfl, rfl, rfl, Nat.le_refl _, fun _ _ => rfl⟩
            replace c0 : (W2.drew.drewN q1).cell? ⟨H, 0, none⟩ = some (.int .i64 (hs : Int)) := c0
            replace c1 : (W2.drew.drewN q1).cell? ⟨H, 1, none⟩ = some (.int .i64 (m : Int)) := c1
            replace c2 : (W2.drew.drewN q1).cell? ⟨yb, 1 + m, none⟩ = some (.slice a (fk m).length c) := c2
            replace ho1 : OwnN (W2.drew.drewN q1) (.slice a (fk m).length c) (fk m) := ho1
            generalize W2.drew.drewN q1 = W4 at *
            obtain ⟨p, hp⟩ : ∃ p, p = posK id hs (fk m) := ⟨_, rfl⟩
            have hpl : p ≤ (fk m).length := by rw [hp]; exact posK_le _ _ _
            have HPO := Lib.hid hp
            rw [← hp]
            clear hp
            refine Thr.drawn [(0, false), (1, false), (2, false), (3, false), (4, false), (5, false), (6, false), (7, false), (8, false), (9, false), (10, false), (11, false), (12, false), (15, false), (16, false), (13, true), (14, true), (17, false), (18, true)] 18
              (fun w' => w'.cell? ⟨H, 0, none⟩ = some (.int .i64 (hs : Int)) ∧ w'.cell? ⟨H, 1, none⟩ = some (.int .i64 (m : Int)) ∧ w'.cell? ⟨yb, 1 + m, none⟩ = some (.slice a (fk m).length c)) (by kernel_rfl) (by kernel_rfl) (fun c a w d v h => by cases d <;> exact h) ⟨c0, c1, c2⟩ ?_
            simp only [Thr.pick, Array.reduceGetElem?]
            iterate 15
              apply Thr.read rfl
              · intro w' hS
                go_simp
                (repeat rw [if_pos (by omega)])
                try with_reducible rfl
              simp only [Act.put, List.setIfInBounds_toArray, List.set_cons_zero, List.set_cons_succ]
            apply Thr.act rfl
            intro K hK
            go_simp
            obtain ⟨W3, hW3⟩ : ∃ W3, W3 = (W4.alloc (.cells #[.int .i64 (hs : Int)] 3)).drew := ⟨_, rfl⟩
            rw [← hW3]
            have hvb : W3.heap[W4.heap.size]? = some (.cells #[.int .i64 (hs : Int)] 3 (0, 0)) := by rw [hW3]; exact box_heap W4 _ _
            have b3 : Below W4.heap.size W4 W3 := by rw [hW3]; exact (below_alloc' W4 _).drew
            have hVn : ∀ k, V.ownBlock = some k → k ≠ yb ∧ k ≠ B ∧ k ≠ B + 1 ∧ k ≠ H ∧ k < W4.heap.size := fun k hk => by
              rw [HV.out] at hk
              exact ⟨fun e => hy.own (1 + m) (by omega) (by omega) (e ▸ hk), fun e => hn1 (.inr ⟨1 + m, by omega, by omega, e ▸ hk⟩), fun e => hn2 (.inr ⟨1 + m, by omega, by omega, e ▸ hk⟩), fun e => hn3 (.inr ⟨1 + m, by omega, by omega, e ▸ hk⟩), hy.slot_lt (1 + m) (by omega) (by omega) k hk⟩
            replace hy := hy.below b3
            replace hst := hst.below b3
            replace c0 := (b3.cell (p := ⟨H, 0, none⟩) (World.block_lt_of_cell? _ _ c0)).trans c0
            replace c1 := (b3.cell (p := ⟨H, 1, none⟩) (World.block_lt_of_cell? _ _ c1)).trans c1
            replace c2 := (b3.cell (p := ⟨yb, 1 + m, none⟩) (World.block_lt_of_cell? _ _ c2)).trans c2
            replace hb1 := (b3.block B (Array.getElem?_eq_some_iff.1 hb1).1).trans hb1
            replace hb2 := (b3.block (B + 1) (Array.getElem?_eq_some_iff.1 hb2).1).trans hb2
            replace ho1 : OwnN W3 (.slice a (fk m).length c) (fk m) := by rw [← HF.out, HV.out]; exact hy.free m (by omega)
            clear hW3
            refine hK _ _ ⟨c0, c1, c2⟩ ?_
            clear hK K
            try simp only [Act.put, List.setIfInBounds_toArray, List.set_cons_zero, List.set_cons_succ]
            apply Thr.act rfl
            intro K hK
            go_simp
            refine (insN (w := W3) ho1 p hs W4.heap.size hpl hvb (by rw [← HF.out]; exact fun e => by have := (hVn _ e).2.2.2.2; omega) hlm).mono ?_
            rintro e w' ⟨v', rfl, hd, hmv⟩
            obtain ⟨L', hL'⟩ : ∃ L', L' = (fk m).take p ++ hs :: (fk m).drop p := ⟨_, rfl⟩
            rw [← hL'] at hd
            have HL' := Lib.hid hL'
            clear hL'
            rw [← HF.out] at hmv
            replace c0 := hmv.grown.cell c0 (fun e => (hVn _ e.symm).2.2.2.1 rfl)
            replace c1 := hmv.grown.cell c1 (fun e => (hVn _ e.symm).2.2.2.1 rfl)
            replace c2 := hmv.grown.cell c2 (fun e => (hVn _ e.symm).1 rfl)
            have l1 := (Array.getElem?_eq_some_iff.1 hb1).1
            have l2 := (Array.getElem?_eq_some_iff.1 hb2).1
            replace hb1 := hmv.heap hb1 (fun e => (hVn _ e).2.1 rfl)
            replace hb2 := hmv.heap hb2 (fun e => (hVn _ e).2.2.1 rfl)
            have e3 : w'.frozen? ⟨yb, 1 + m, none⟩ = false := by
              rw [World.frozen?_of_block (hmv.grown.block yb hy.lt (fun e => (hVn _ e.symm).1 rfl))]
              exact hy.frozen _
            refine hK _ _ ⟨c0, c1, c2⟩ ?_
            clear hK K
            obtain ⟨a', c', rfl, _, _, _⟩ := own_form hd
            try simp only [Act.put, List.setIfInBounds_toArray, List.set_cons_zero, List.set_cons_succ]
            apply Thr.read rfl
            · intro w' hS
              go_simp
              (repeat rw [if_pos (by omega)])
              try with_reducible rfl
            simp only [Act.put, List.setIfInBounds_toArray, List.set_cons_zero, List.set_cons_succ]
            apply Thr.last rfl
            intro K hK
            go_simp
            refine hK _ _ ?_
            clear hK K
            rw [HV.out] at hmv
            have hput := hy.put_free m (by omega) hmv hd
            have hyB : yb ≠ B := fun e => hn1 (.inl e.symm)
            have hyB1 : yb ≠ B + 1 := fun e => hn2 (.inl e.symm)
            replace hb1 : (w'.setCell ⟨yb, 1 + m, none⟩ (.slice a' L'.length c')).heap[B]? = some (.cells #[.int .i64 (bs : Int), .int .i64 (m : Int)] 31 (0, 0)) := by
              rw [Below.heap_setCell _ _ _ _ (Ne.symm hyB)]; exact hb1
            replace hb2 : (w'.setCell ⟨yb, 1 + m, none⟩ (.slice a' L'.length c')).heap[B + 1]? = some (.cells #[.int .i64 (ps : Int), .int .i64 (po : Int)] 31 (0, 0)) := by
              rw [Below.heap_setCell _ _ _ _ (Ne.symm hyB1)]; exact hb2
            obtain ⟨hy', hst'⟩ := hput
            generalize w'.setCell ⟨yb, 1 + m, none⟩ (.slice a' L'.length c') = W5 at *
            go_wp2_with fail

            go_roundg (gk - 1)
            case measure => omega
            case rel =>
              refine ⟨bs, m, upd fk m L', _, hb1, hb2, hy', hst.trans hst', hst'.notFoot l1 hn1, hst'.notFoot l2 hn2, by omega, by rw [← HP.out]; exact hbs, by rw [← HP.out]; exact hba.out, hpm, by rw [← HP.out]; exact hbi.out, ?_, fun q => ?_, fun q => ?_, by omega⟩
              · rw [← HHV.out, HL'.out, HPO.out]; rfl
              · by_cases hq : q = m
                · subst hq
                  rw [upd_same, HL'.out, HPO.out]
                  exact sort_insK id (hso q)
                · rw [upd_other _ hq]; exact hso q
              · by_cases hq : q = m
                · subst hq
                  rw [upd_same, HL'.out]
                  have := hln q
                  simp only [List.length_append, List.length_cons, List.length_take, List.length_drop]
                  omega
                · rw [upd_other _ hq]
                  have := hln q
                  omega
      · go_wp2_with fail
        rw [← hW1]
        clear hb1 hb2 hf0 c0 c1 p0 p1 hW1
        go_cut [6] (fun s6 wx => s6 = .pointer (some ⟨W1.heap.size, 0, none⟩) ∧ wx = (W1.alloc (.cells #[.int .i64 (u : Int), .int .i64 (m : Int)] 31)).drew)
        case first =>
          go_region_held3 (fun w' => w'.cell? ⟨B, 0, none⟩ = some (.int .i64 (sk : Int)) ∧ w'.cell? ⟨B, 1, none⟩ = some (.int .i64 (m : Int))) (go_keep) (first | (go_at_call 54; refine (hsz _).mono ?_; rintro e w' ⟨rfl, rfl⟩))
          all_goals
            go_wp2_with fail
            go_meet
            exact ⟨rfl, rfl⟩
        case rest =>
          rename World => wx
          obtain ⟨rfl, hwx⟩ := hcut
          have hbl := below_alloc' W1 (.cells #[.int .i64 (u : Int), .int .i64 (m : Int)] 31)
          have hh := box_heap W1 #[.int .i64 (u : Int), .int .i64 (m : Int)] 31
          replace hb1 : _ = _ := (hbl.block B (by omega)).trans hb1'
          replace hb2 : _ = _ := (hbl.block (B + 1) (by omega)).trans hb2'
          replace hh : wx.heap[W1.heap.size]? = some (.cells #[.int .i64 (u : Int), .int .i64 (m : Int)] 31 (0, 0)) := by rw [hwx]; exact hh
          replace hb1 : wx.heap[B]? = some (.cells #[.int .i64 (sk : Int), .int .i64 (m : Int)] 31 (0, 0)) := by rw [hwx]; exact hb1
          replace hb2 : wx.heap[B + 1]? = some (.cells #[.int .i64 (ps : Int), .int .i64 (po : Int)] 31 (0, 0)) := by rw [hwx]; exact hb2
          replace hy : YardAt wx yb ck { y with free := fk } := by rw [hwx]; exact (hy.alloc _).drewN 1
          replace hst : Step w yb cs wx ck := by rw [hwx]; exact (hst.alloc _).drewN 1
          have hn3 : ¬ foot yb ck W1.heap.size := fun hf => by have := hy0.foot_lt _ hf; omega
          obtain ⟨H, hH⟩ : ∃ H, H = W1.heap.size := ⟨_, rfl⟩
          rw [← hH] at hh hn3 hBl ⊢
          clear hwx hbl c0' c1' p0' p1' hb1' hb2' hH hy0
          obtain ⟨c0, c1⟩ := two_cells hb1
          obtain ⟨p0, p1⟩ := two_cells hb2
          obtain ⟨d0, d1⟩ := two_cells hh
          have c2 := two_frozen hb1 0
          have c3 := two_frozen hb1 1
          have d2 := two_frozen hh 0
          have d3 := two_frozen hh 1
          go_upto_if 32 with fail
          go_cut [] (fun wy => ∃ bs hs : Nat, wy.heap[B]? = some (.cells #[.int .i64 (bs : Int), .int .i64 (m : Int)] 31 (0, 0)) ∧ wy.heap[B + 1]? = some (.cells #[.int .i64 (ps : Int), .int .i64 (po : Int)] 31 (0, 0)) ∧ wy.heap[H]? = some (.cells #[.int .i64 (hs : Int), .int .i64 (m : Int)] 31 (0, 0)) ∧
            YardAt wy yb ck { y with free := fk } ∧ Step w yb cs wy ck ∧ bs + P ≤ 2048 ∧ bs % P = 0 ∧ ps / P = bs / P ∧ hs < 2048 ∧ halveF (upd fk m (insK id hs (fk m))) bs ps po m = halveF f1 s ps po o)
          case first =>
            by_cases hge : (u : Int) ≤ (ps : Int)
            · go_wp2_with fail
              go_meet
              have hul := HU.out
              refine ⟨u, sk, ?_, ?_, ?_, ((((hy.setOther _ _ hn1).setOther _ _ hn1).setOther _ _ hn3).setOther _ _ hn3), ((((hst.setNew _ _ (Nat.le_of_eq HB.out.symm)).setNew _ _ (Nat.le_of_eq HB.out.symm)).setNew _ _ (by show _ ≤ H; have := HB.out; omega)).setNew _ _ (by show _ ≤ H; have := HB.out; omega)), by omega, by rw [HU.out]; exact HPD.out.2.1, by rw [HU.out]; exact HPD.out.2.2.1 (by omega), by omega, ?_⟩
              · rw [Below.heap_setCell _ _ _ _ (show B ≠ H by omega), Below.heap_setCell _ _ _ _ (show B ≠ H by omega)]
                exact two_set hb1
              · rw [Below.heap_setCell _ _ _ _ (show B + 1 ≠ H by omega), Below.heap_setCell _ _ _ _ (show B + 1 ≠ H by omega), Below.heap_setCell _ _ _ _ (show B + 1 ≠ B by omega), Below.heap_setCell _ _ _ _ (show B + 1 ≠ B by omega)]
                exact hb2
              · refine two_set (a := .int .i64 (u : Int)) (b := .int .i64 (m : Int)) ?_
                rw [Below.heap_setCell _ _ _ _ (show H ≠ B by omega), Below.heap_setCell _ _ _ _ (show H ≠ B by omega)]
                exact hh
              · rw [← HH.out, HHU.out (by omega), HU.out]
            · go_wp2_with fail
              go_meet
              have hul := HU.out
              refine ⟨sk, u, hb1, hb2, hh, hy, hst, by omega, HPD.out.1, HPD.out.2.2.2 (by omega), by omega, ?_⟩
              rw [← HH.out, HHL.out (by omega), HU.out]
          case rest =>
            rename World => W2
            obtain ⟨bs, hs, hb1, hb2, hh, hy, hst, hbs, hba, hbi, hhs, HHV⟩ := hcut
            replace HHV := Lib.hid HHV
            replace hba := Lib.hid hba
            replace hbi := Lib.hid hbi
            clear HHU HHL HPD HU d0 d1 c0 c1 p0 p1 c2 c3 d2 d3
            obtain ⟨c0, c1⟩ := two_cells hh
            obtain ⟨V, hV⟩ : ∃ V, V = at_ ck (1 + m) := ⟨_, rfl⟩
            obtain ⟨a, c, hf, hn, hc, hg⟩ := own_form (hy.free m (by omega))
            rw [← hV] at hf
            have HV := Lib.hid hV
            have ho1 : OwnN W2 (.slice a (fk m).length c) (fk m) := by rw [← hf, hV]; exact hy.free m (by omega)
            have c2 : W2.cell? ⟨yb, 1 + m, none⟩ = some (.slice a (fk m).length c) := by rw [← hf, hV]; exact hy.cell (1 + m) (by omega)
            have i0 : (0 : Int) ≤ (m : Int) := by omega
            have i1 : (m : Int) < 11 := by omega
            have HF := Lib.hid hf
            have hlm : (fk m).length ≤ 1073741824 := by have := hln m; omega
            clear hV hf hwl
            go_wp2_with fail
            refine Thr.drawn [(0, false), (1, false), (2, false), (3, false), (4, false), (5, false), (6, false), (7, false), (8, false), (9, true), (10, false), (11, false), (12, false), (13, false), (14, false)] 15
              (fun w' => w'.cell? ⟨H, 0, none⟩ = some (.int .i64 (hs : Int)) ∧ w'.cell? ⟨H, 1, none⟩ = some (.int .i64 (m : Int)) ∧ w'.cell? ⟨yb, 1 + m, none⟩ = some (.slice a (fk m).length c)) (by kernel_rfl) (by kernel_rfl) (fun c a w d v h => by cases d <;> exact h) ⟨c0, c1, c2⟩ ?_
            simp only [Thr.pick, Array.reduceGetElem?]
            iterate 9
              apply Thr.read rfl
              · intro w' hS
                go_simp
                (repeat rw [if_pos (by omega)])
                try with_reducible rfl
              simp only [Act.put, List.setIfInBounds_toArray, List.set_cons_zero, List.set_cons_succ]
            apply Thr.act rfl
            intro K hK
            go_simp
            refine (search_own (w := W2.drew) ho1 (hso m) (by have := hln m; omega) hs).mono ?_
            rintro e w' ⟨rfl, q1, rfl⟩
            refine hK _ _ ⟨c0, c1, c2⟩ ?_
            clear hK K
            try simp only [Act.put, List.setIfInBounds_toArray, List.set_cons_zero, List.set_cons_succ]
            iterate 5
              apply Thr.read rfl
              · intro w' hS
                go_simp
                (repeat rw [if_pos (by omega)])
                try with_reducible rfl
              simp only [Act.put, List.setIfInBounds_toArray, List.set_cons_zero, List.set_cons_succ]
            refine Thr.done ?_
            go_wp2_with fail
            replace hb1 : (W2.drew.drewN q1).heap[B]? = some (.cells #[.int .i64 (bs : Int), .int .i64 (m : Int)] 31 (0, 0)) := hb1
            replace hb2 : (W2.drew.drewN q1).heap[B + 1]? = some (.cells #[.int .i64 (ps : Int), .int .i64 (po : Int)] 31 (0, 0)) := hb2
            replace hy : YardAt (W2.drew.drewN q1) yb ck { y with free := fk } := hy.below ⟨rfl, rfl, rfl, Nat.le_refl _, fun _ _ => rfl⟩
            replace hst : Step w yb cs (W2.drew.drewN q1) ck := hst.below ⟨rfl, rfl, rfl, Nat.le_refl _, fun _ _ => rfl⟩
            replace c0 : (W2.drew.drewN q1).cell? ⟨H, 0, none⟩ = some (.int .i64 (hs : Int)) := c0
            replace c1 : (W2.drew.drewN q1).cell? ⟨H, 1, none⟩ = some (.int .i64 (m : Int)) := c1
            replace c2 : (W2.drew.drewN q1).cell? ⟨yb, 1 + m, none⟩ = some (.slice a (fk m).length c) := c2
            replace ho1 : OwnN (W2.drew.drewN q1) (.slice a (fk m).length c) (fk m) := ho1
            generalize W2.drew.drewN q1 = W4 at *
            obtain ⟨p, hp⟩ : ∃ p, p = posK id hs (fk m) := ⟨_, rfl⟩
            have hpl : p ≤ (fk m).length := by rw [hp]; exact posK_le _ _ _
            have HPO := Lib.hid hp
            rw [← hp]
            clear hp
            refine Thr.drawn [(0, false), (1, false), (2, false), (3, false), (4, false), (5, false), (6, false), (7, false), (8, false), (9, false), (10, false), (11, false), (12, false), (15, false), (16, false), (13, true), (14, true), (17, false), (18, true)] 18
              (fun w' => w'.cell? ⟨H, 0, none⟩ = some (.int .i64 (hs : Int)) ∧ w'.cell? ⟨H, 1, none⟩ = some (.int .i64 (m : Int)) ∧ w'.cell? ⟨yb, 1 + m, none⟩ = some (.slice a (fk m).length c)) (by kernel_rfl) (by kernel_rfl) (fun c a w d v h => by cases d <;> exact h) ⟨c0, c1, c2⟩ ?_
            simp only [Thr.pick, Array.reduceGetElem?]
            iterate 15
              apply Thr.read rfl
              · intro w' hS
                go_simp
                (repeat rw [if_pos (by omega)])
                try with_reducible rfl
              simp only [Act.put, List.setIfInBounds_toArray, List.set_cons_zero, List.set_cons_succ]
            apply Thr.act rfl
            intro K hK
            go_simp
            obtain ⟨W3, hW3⟩ : ∃ W3, W3 = (W4.alloc (.cells #[.int .i64 (hs : Int)] 3)).drew := ⟨_, rfl⟩
            rw [← hW3]
            have hvb : W3.heap[W4.heap.size]? = some (.cells #[.int .i64 (hs : Int)] 3 (0, 0)) := by rw [hW3]; exact box_heap W4 _ _
            have b3 : Below W4.heap.size W4 W3 := by rw [hW3]; exact (below_alloc' W4 _).drew
            have hVn : ∀ k, V.ownBlock = some k → k ≠ yb ∧ k ≠ B ∧ k ≠ B + 1 ∧ k ≠ H ∧ k < W4.heap.size := fun k hk => by
              rw [HV.out] at hk
              exact ⟨fun e => hy.own (1 + m) (by omega) (by omega) (e ▸ hk), fun e => hn1 (.inr ⟨1 + m, by omega, by omega, e ▸ hk⟩), fun e => hn2 (.inr ⟨1 + m, by omega, by omega, e ▸ hk⟩), fun e => hn3 (.inr ⟨1 + m, by omega, by omega, e ▸ hk⟩), hy.slot_lt (1 + m) (by omega) (by omega) k hk⟩
            replace hy := hy.below b3
            replace hst := hst.below b3
            replace c0 := (b3.cell (p := ⟨H, 0, none⟩) (World.block_lt_of_cell? _ _ c0)).trans c0
            replace c1 := (b3.cell (p := ⟨H, 1, none⟩) (World.block_lt_of_cell? _ _ c1)).trans c1
            replace c2 := (b3.cell (p := ⟨yb, 1 + m, none⟩) (World.block_lt_of_cell? _ _ c2)).trans c2
            replace hb1 := (b3.block B (Array.getElem?_eq_some_iff.1 hb1).1).trans hb1
            replace hb2 := (b3.block (B + 1) (Array.getElem?_eq_some_iff.1 hb2).1).trans hb2
            replace ho1 : OwnN W3 (.slice a (fk m).length c) (fk m) := by rw [← HF.out, HV.out]; exact hy.free m (by omega)
            clear hW3
            refine hK _ _ ⟨c0, c1, c2⟩ ?_
            clear hK K
            try simp only [Act.put, List.setIfInBounds_toArray, List.set_cons_zero, List.set_cons_succ]
            apply Thr.act rfl
            intro K hK
            go_simp
            refine (insN (w := W3) ho1 p hs W4.heap.size hpl hvb (by rw [← HF.out]; exact fun e => by have := (hVn _ e).2.2.2.2; omega) hlm).mono ?_
            rintro e w' ⟨v', rfl, hd, hmv⟩
            obtain ⟨L', hL'⟩ : ∃ L', L' = (fk m).take p ++ hs :: (fk m).drop p := ⟨_, rfl⟩
            rw [← hL'] at hd
            have HL' := Lib.hid hL'
            clear hL'
            rw [← HF.out] at hmv
            replace c0 := hmv.grown.cell c0 (fun e => (hVn _ e.symm).2.2.2.1 rfl)
            replace c1 := hmv.grown.cell c1 (fun e => (hVn _ e.symm).2.2.2.1 rfl)
            replace c2 := hmv.grown.cell c2 (fun e => (hVn _ e.symm).1 rfl)
            have l1 := (Array.getElem?_eq_some_iff.1 hb1).1
            have l2 := (Array.getElem?_eq_some_iff.1 hb2).1
            replace hb1 := hmv.heap hb1 (fun e => (hVn _ e).2.1 rfl)
            replace hb2 := hmv.heap hb2 (fun e => (hVn _ e).2.2.1 rfl)
            have e3 : w'.frozen? ⟨yb, 1 + m, none⟩ = false := by
              rw [World.frozen?_of_block (hmv.grown.block yb hy.lt (fun e => (hVn _ e.symm).1 rfl))]
              exact hy.frozen _
            refine hK _ _ ⟨c0, c1, c2⟩ ?_
            clear hK K
            obtain ⟨a', c', rfl, _, _, _⟩ := own_form hd
            try simp only [Act.put, List.setIfInBounds_toArray, List.set_cons_zero, List.set_cons_succ]
            apply Thr.read rfl
            · intro w' hS
              go_simp
              (repeat rw [if_pos (by omega)])
              try with_reducible rfl
            simp only [Act.put, List.setIfInBounds_toArray, List.set_cons_zero, List.set_cons_succ]
            apply Thr.last rfl
            intro K hK
            go_simp
            refine hK _ _ ?_
            clear hK K
            rw [HV.out] at hmv
            have hput := hy.put_free m (by omega) hmv hd
            have hyB : yb ≠ B := fun e => hn1 (.inl e.symm)
            have hyB1 : yb ≠ B + 1 := fun e => hn2 (.inl e.symm)
            replace hb1 : (w'.setCell ⟨yb, 1 + m, none⟩ (.slice a' L'.length c')).heap[B]? = some (.cells #[.int .i64 (bs : Int), .int .i64 (m : Int)] 31 (0, 0)) := by
              rw [Below.heap_setCell _ _ _ _ (Ne.symm hyB)]; exact hb1
            replace hb2 : (w'.setCell ⟨yb, 1 + m, none⟩ (.slice a' L'.length c')).heap[B + 1]? = some (.cells #[.int .i64 (ps : Int), .int .i64 (po : Int)] 31 (0, 0)) := by
              rw [Below.heap_setCell _ _ _ _ (Ne.symm hyB1)]; exact hb2
            obtain ⟨hy', hst'⟩ := hput
            generalize w'.setCell ⟨yb, 1 + m, none⟩ (.slice a' L'.length c') = W5 at *
            go_wp2_with fail

            go_roundg (gk - 1)
            case measure => omega
            case rel =>
              refine ⟨bs, m, upd fk m L', _, hb1, hb2, hy', hst.trans hst', hst'.notFoot l1 hn1, hst'.notFoot l2 hn2, by omega, by rw [← HP.out]; exact hbs, by rw [← HP.out]; exact hba.out, hpm, by rw [← HP.out]; exact hbi.out, ?_, fun q => ?_, fun q => ?_, by omega⟩
              · rw [← HHV.out, HL'.out, HPO.out]; rfl
              · by_cases hq : q = m
                · subst hq
                  rw [upd_same, HL'.out, HPO.out]
                  exact sort_insK id (hso q)
                · rw [upd_other _ hq]; exact hso q
              · by_cases hq : q = m
                · subst hq
                  rw [upd_same, HL'.out]
                  have := hln q
                  simp only [List.length_append, List.length_cons, List.length_take, List.length_drop]
                  omega
                · rw [upd_other _ hq]
                  have := hln q
                  omega
end Go.Proofs.Ythmgnfkjkdmdoaa
