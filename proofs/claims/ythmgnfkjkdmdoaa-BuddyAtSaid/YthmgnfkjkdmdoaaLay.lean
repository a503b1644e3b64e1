/- Contract: lay. -/
import Derived.Test.YthmgnfkjkdmdoaaLift
import Derived.Test.YthmgnfkjkdmdoaaBit
import Derived.Deep.LoopGhost
set_option linter.unusedSimpArgs false
set_option linter.unusedVariables false
namespace Go.Proofs.Ythmgnfkjkdmdoaa
open Go Go.RowKit Bud

theorem layF_stop (n : Nat) (f : Nat → List Nat) (s o : Nat) (h : ¬ (o < n ∧ sib s o ∈ f o)) : layF n f s o = upd f o (insK id s (f o)) := by rw [layF, dif_neg h]
theorem layF_on (n : Nat) (f : Nat → List Nat) (s o : Nat) (h1 : o < n) (h2 : sib s o ∈ f o) : layF n f s o = layF n (upd f o (delK id (sib s o) (f o))) (min s (sib s o)) (o + 1) := by rw [layF, dif_pos ⟨h1, h2⟩]

set_option maxHeartbeats 4000000 in
set_option maxRecDepth 100000 in
theorem lay_calls {w : World} {yb : Nat} {cs : Array Value} {y : Yd} (h : YardAt w yb cs y) (s o : Nat) (ho : o ≤ y.n) (hs : s < 2048) (hsrt : ∀ q, SortK id (y.free q)) (hl : ∀ q, (y.free q).length ≤ 1073741824) :
    Calls Try.prog 45 #[.pointer (some ⟨yb, 0, none⟩), .agg #[.int .i64 (s : Int), .int .i64 (o : Int)]] w fun e w' => e = .returned (.tuple #[]) ∧
      ∃ cs', YardAt w' yb cs' { y with free := layF y.n y.free s o } ∧ Step w yb cs w' cs' := by
  have hle := h.le
  obtain ⟨B, hB⟩ : ∃ B, B = w.heap.size := ⟨_, rfl⟩
  go_enter Try.func45, Try.ntmps45
  go_wp2_with fail
  rw [← hB]
  go_loopg [] (y.n - o) (fun g wr => ∃ (sk ok : Nat) (fk : Nat → List Nat) (ck : Array Value), wr.heap[B]? = some (.cells #[.int .i64 (sk : Int), .int .i64 (ok : Int)] 31 (0, 0)) ∧ YardAt wr yb ck { y with free := fk } ∧ Step w yb cs wr ck ∧ ¬ foot yb ck B ∧
    ok ≤ y.n ∧ sk < 2048 ∧ layF y.n fk sk ok = layF y.n y.free s o ∧ (∀ q, SortK id (fk q)) ∧ (∀ q, (fk q).length ≤ 1073741824) ∧ y.n - ok ≤ g)
  case atStart =>
    refine ⟨s, o, y.free, cs, ?_, h.alloc _, (Step.refl _ _ _).alloc _, fun hf => ?_, ho, hs, rfl, hsrt, hl, Nat.le_refl _⟩
    · rw [hB]; exact box_heap _ _ _
    · have := h.foot_lt B hf; omega
  case round =>
    obtain ⟨sk, ok, fk, ck, hb, hy, hst, hnf, hok, hsk, hlay, hso, hln, hgk⟩ := hrel
    obtain ⟨c0, c1⟩ := two_cells hb
    have q0 : wr.cell? ⟨yb, 0, none⟩ = some (.int .i64 (y.n : Int)) := hy.order_cell
    have HB := Lib.hid hB
    clear hB
    obtain ⟨V, hV⟩ : ∃ V, V = at_ ck (1 + ok) := ⟨_, rfl⟩
    obtain ⟨a, c, hf, hn, hc, hg⟩ := own_form (hy.free ok (by omega))
    rw [← hV] at hf
    have HV := Lib.hid hV
    have ho1 : OwnN wr (.slice a (fk ok).length c) (fk ok) := by rw [← hf, hV]; exact hy.free ok (by omega)
    have c2 : wr.cell? ⟨yb, 1 + ok, none⟩ = some (.slice a (fk ok).length c) := by rw [← hf, hV]; exact hy.cell (1 + ok) (by omega)
    have i0 : (0 : Int) ≤ (ok : Int) := by omega
    have i1 : (ok : Int) < 11 := by omega
    have HF := Lib.hid hf
    have HL := Lib.hid hlay
    clear hV hf hlay
    by_cases hlt : ok < y.n
    · have hlt' : (ok : Int) < (y.n : Int) := by omega
      obtain ⟨P, hP⟩ : ∃ P, P = 2 ^ ok := ⟨_, rfl⟩
      have hPl : P ≤ 1024 := by rw [hP]; exact Nat.pow_le_pow_right (by omega) (show ok ≤ 10 by omega)
      have hx : bits .xor .i64 (sk : Int) (P : Int) = ((sib sk ok : Nat) : Int) := by rw [xor_i64 _ _ (by omega) (by omega), hP]; rfl
      have hsl : sib sk ok < 2048 := by
        unfold sib
        exact Nat.xor_lt_two_pow (n := 11) (by omega) (by rw [← hP]; omega)
      have hsz : ∀ W, Calls Try.prog 54 #[.int .i64 (ok : Int)] W fun e w' => e = .returned (.int .i64 (P : Int)) ∧ w' = W := fun W => by rw [hP]; exact size_calls ok (by omega) W
      clear hP
      generalize hs' : sib sk ok = t at *
      have HT := Lib.hid hs'
      clear hs'
      go_wp2_with fail
      refine Thr.drawn [(0, false), (1, false), (2, false), (3, false), (4, false), (5, false), (6, false)] 7
        (fun w' => w'.cell? ⟨B, 0, none⟩ = some (.int .i64 (sk : Int)) ∧ w'.cell? ⟨B, 1, none⟩ = some (.int .i64 (ok : Int)) ∧ w'.cell? ⟨yb, 0, none⟩ = some (.int .i64 (y.n : Int))) (by kernel_rfl) (by kernel_rfl) (fun c a w d v h => by cases d <;> exact h) ⟨c0, c1, q0⟩ ?_
      simp only [Thr.pick, Array.reduceGetElem?]
      iterate 7
        apply Thr.read rfl
        · intro w' hS
          go_simp
          (repeat rw [if_pos (by omega)])
          try with_reducible rfl
        simp only [Act.put, List.setIfInBounds_toArray, List.set_cons_zero, List.set_cons_succ]
      refine Thr.done ?_
      go_wp2_with fail
      refine Thr.drawn [(0, false), (1, false), (2, false), (3, false), (4, true), (5, false), (6, false)] 7
        (fun w' => w'.cell? ⟨B, 0, none⟩ = some (.int .i64 (sk : Int)) ∧ w'.cell? ⟨B, 1, none⟩ = some (.int .i64 (ok : Int)) ∧ w'.cell? ⟨yb, 0, none⟩ = some (.int .i64 (y.n : Int))) (by kernel_rfl) (by kernel_rfl) (fun c a w d v h => by cases d <;> exact h) ⟨c0, c1, q0⟩ ?_
      simp only [Thr.pick, Array.reduceGetElem?]
      iterate 4
        apply Thr.read rfl
        · intro w' hS
          go_simp
          (repeat rw [if_pos (by omega)])
          try with_reducible rfl
        simp only [Act.put, List.setIfInBounds_toArray, List.set_cons_zero, List.set_cons_succ]
      apply Thr.act rfl
      intro K hK
      go_simp
      refine (hsz _).mono ?_
      rintro e w' ⟨rfl, rfl⟩
      refine hK _ _ ⟨c0, c1, q0⟩ ?_
      clear hK K
      try simp only [Act.put, List.setIfInBounds_toArray, List.set_cons_zero, List.set_cons_succ]
      iterate 2
        apply Thr.read rfl
        · intro w' hS
          go_simp
          (repeat rw [if_pos (by omega)])
          try with_reducible rfl
        simp only [Act.put, List.setIfInBounds_toArray, List.set_cons_zero, List.set_cons_succ]
      refine Thr.done ?_
      go_wp2_with fail
      refine Thr.drawn [(0, false), (1, false), (2, false), (3, false), (4, false), (5, false), (6, false), (7, false), (8, true), (9, false), (10, false), (11, false), (12, false), (13, false)] 14
        (fun w' => w'.cell? ⟨B, 0, none⟩ = some (.int .i64 (sk : Int)) ∧ w'.cell? ⟨B, 1, none⟩ = some (.int .i64 (ok : Int)) ∧ w'.cell? ⟨yb, 1 + ok, none⟩ = some (.slice a (fk ok).length c)) (by kernel_rfl) (by kernel_rfl) (fun c a w d v h => by cases d <;> exact h) ⟨c0, c1, c2⟩ ?_
      simp only [Thr.pick, Array.reduceGetElem?]
      iterate 8
        apply Thr.read rfl
        · intro w' hS
          go_simp
          (repeat rw [if_pos (by omega)])
          try with_reducible rfl
        simp only [Act.put, List.setIfInBounds_toArray, List.set_cons_zero, List.set_cons_succ]
      apply Thr.act rfl
      intro K hK
      go_simp
      by_cases hin : t ∈ fk ok
      · have hdec : decide (t ∈ fk ok) = true := by simpa using hin
        have hsr := fun W hW => search_own (w := W) (v := .slice a (fk ok).length c) (l := fk ok) hW (hso ok) (by have := hln ok; omega) t
        rw [hdec] at hsr
        refine (hsr wr.drew.drew.drew ho1).mono ?_
        rintro e w' ⟨rfl, q, rfl⟩
        refine hK _ _ ⟨c0, c1, c2⟩ ?_
        clear hK K
        try simp only [Act.put, List.setIfInBounds_toArray, List.set_cons_zero, List.set_cons_succ]
        iterate 5
          apply Thr.read rfl
          · intro w' hS
            go_simp
            (repeat rw [if_pos (by omega)])
            try with_reducible rfl
          simp only [Act.put, List.setIfInBounds_toArray, List.set_cons_zero, List.set_cons_succ]
        refine Thr.done ?_
        go_wp2_with fail
        replace hb : (wr.drewN (1 + (1 + (1 + q)))).heap[B]? = some (.cells #[.int .i64 (sk : Int), .int .i64 (ok : Int)] 31 (0, 0)) := hb
        replace hy : YardAt (wr.drewN (1 + (1 + (1 + q)))) yb ck { y with free := fk } := hy.below ⟨rfl, rfl, rfl, Nat.le_refl _, fun _ _ => rfl⟩
        replace hst : Step w yb cs (wr.drewN (1 + (1 + (1 + q)))) ck := hst.below ⟨rfl, rfl, rfl, Nat.le_refl _, fun _ _ => rfl⟩
        replace c0 : (wr.drewN (1 + (1 + (1 + q)))).cell? ⟨B, 0, none⟩ = some (.int .i64 (sk : Int)) := c0
        replace c1 : (wr.drewN (1 + (1 + (1 + q)))).cell? ⟨B, 1, none⟩ = some (.int .i64 (ok : Int)) := c1
        replace c2 : (wr.drewN (1 + (1 + (1 + q)))).cell? ⟨yb, 1 + ok, none⟩ = some (.slice a (fk ok).length c) := c2
        replace ho1 : OwnN (wr.drewN (1 + (1 + (1 + q)))) (.slice a (fk ok).length c) (fk ok) := ho1
        generalize wr.drewN (1 + (1 + (1 + q))) = W4 at *
        obtain ⟨p, hp⟩ : ∃ p, p = posK id t (fk ok) := ⟨_, rfl⟩
        have hpl : p < (fk ok).length := by
          rw [hp]
          have := length_delK id (hso ok) hin rfl
          rcases Nat.lt_or_ge (posK id t (fk ok)) (fk ok).length with hh | hh
          · exact hh
          · rw [show id t = t from rfl] at this
            rw [delK, List.eraseIdx_of_length_le hh] at this
            omega
        have HP := Lib.hid hp
        rw [← hp]
        clear hp
        have hpb := hln ok
        have p0 : IntKind.i64.wrap ((p : Int) + 1) = (p : Int) + 1 := by rw [IntKind.wrap_i64]; omega
        refine Thr.drawn [(0, false), (1, false), (2, false), (3, false), (4, false), (5, false), (6, false), (7, false), (8, false), (9, false), (10, false), (11, false), (12, false), (14, false), (15, false), (13, true), (16, false), (17, true)] 17
          (fun w' => w'.cell? ⟨B, 0, none⟩ = some (.int .i64 (sk : Int)) ∧ w'.cell? ⟨B, 1, none⟩ = some (.int .i64 (ok : Int)) ∧ w'.cell? ⟨yb, 1 + ok, none⟩ = some (.slice a (fk ok).length c)) (by kernel_rfl) (by kernel_rfl) (fun c a w d v h => by cases d <;> exact h) ⟨c0, c1, c2⟩ ?_
        simp only [Thr.pick, Array.reduceGetElem?]
        iterate 15
          apply Thr.read rfl
          · intro w' hS
            go_simp
            (repeat rw [if_pos (by omega)])
            try with_reducible rfl
          simp only [Act.put, List.setIfInBounds_toArray, List.set_cons_zero, List.set_cons_succ]
        apply Thr.act rfl
        intro K hK
        go_simp
        refine (delN (w := W4.drew) ho1 p hpl).mono ?_
        rintro e w' ⟨v', rfl, hd, hmv⟩
        obtain ⟨L', hL'⟩ : ∃ L', L' = (fk ok).eraseIdx p := ⟨_, rfl⟩
        rw [← hL'] at hd
        have HL' := Lib.hid hL'
        clear hL'
        rw [← HF.out] at hmv
        have hVn : ∀ k, V.ownBlock = some k → k ≠ yb ∧ k ≠ B := fun k hk => by
          rw [HV.out] at hk
          exact ⟨fun e => hy.own (1 + ok) (by omega) (by omega) (e ▸ hk), fun e => hnf (.inr ⟨1 + ok, by omega, by omega, e ▸ hk⟩)⟩
        replace c0 := hmv.grown.cell (w := W4.drew) c0 (fun e => (hVn _ e.symm).2 rfl)
        replace c1 := hmv.grown.cell (w := W4.drew) c1 (fun e => (hVn _ e.symm).2 rfl)
        replace c2 := hmv.grown.cell (w := W4.drew) c2 (fun e => (hVn _ e.symm).1 rfl)
        have e3 : w'.frozen? ⟨yb, 1 + ok, none⟩ = false := by
          rw [World.frozen?_of_block (hmv.grown.block yb hy.lt (fun e => (hVn _ e.symm).1 rfl))]
          exact hy.frozen _
        have HBH := Lib.hid hb
        replace hb := hmv.heap (w := W4.drew) hb (fun e => (hVn _ e).2 rfl)
        have f0 := two_frozen hb
        refine hK _ _ ⟨c0, c1, c2⟩ ?_
        clear hK K
        obtain ⟨a', c', rfl, _, _, _⟩ := own_form hd
        try simp only [Act.put, List.setIfInBounds_toArray, List.set_cons_zero, List.set_cons_succ]
        apply Thr.read rfl
        · intro w' hS
          go_simp
          (repeat rw [if_pos (by omega)])
          try with_reducible rfl
        simp only [Act.put, List.setIfInBounds_toArray, List.set_cons_zero, List.set_cons_succ]
        apply Thr.last rfl
        intro K hK
        go_simp
        refine hK _ _ ?_
        clear hK K
        rw [HV.out] at hmv
        have hput := (show YardAt W4.drew yb ck { y with free := fk } from hy.drewN 1).put_free ok (by omega) hmv hd
        have hyb : yb ≠ B := fun e => hnf (.inl e.symm)
        have hb' : (w'.setCell ⟨yb, 1 + ok, none⟩ (.slice a' L'.length c')).heap[B]? = some (.cells #[.int .i64 (sk : Int), .int .i64 (ok : Int)] 31 (0, 0)) := by
          rw [Below.heap_setCell _ _ _ _ (Ne.symm hyb)]; exact hb
        obtain ⟨hy', hst'⟩ := hput
        generalize w'.setCell ⟨yb, 1 + ok, none⟩ (.slice a' L'.length c') = W5 at *
        obtain ⟨d0, d1⟩ := two_cells hb'
        have d2 := fun k => two_frozen hb' k
        have d3 := d2 0
        have d4 := d2 1
        have hBlt : B < W4.drew.heap.size := (Array.getElem?_eq_some_iff.1 (show W4.drew.heap[B]? = _ from HBH.out)).1
        have hnf' := hst'.notFoot hBlt hnf
        clear c0 c1 c2 e3 f0 hb d2
        go_wp2_with fail
        have em : min (sk : Int) (t : Int) = ((min sk t : Nat) : Int) := by omega
        have eo : (ok : Int) + 1 = ((ok + 1 : Nat) : Int) := by omega
        rw [em, eo]
        go_roundg (gk - 1)
        case measure => omega
        case rel =>
          refine ⟨min sk t, ok + 1, upd fk ok L', _, two_set hb', (hy'.setOther _ _ hnf').setOther _ _ hnf', (((hst.drewN 1).trans hst').setNew _ _ (Nat.le_of_eq HB.out.symm)).setNew _ _ (Nat.le_of_eq HB.out.symm), hnf', by omega, by omega, ?_, fun q => ?_, fun q => ?_, by omega⟩
          · rw [← HL.out, layF_on _ _ _ _ hlt (by rw [HT.out]; exact hin), HL'.out, HP.out, HT.out]; rfl
          · by_cases hq : q = ok
            · subst hq
              rw [upd_same, HL'.out]
              exact (hso q).sublist (List.eraseIdx_sublist ..)
            · rw [upd_other _ hq]; exact hso q
          · by_cases hq : q = ok
            · subst hq
              rw [upd_same, HL'.out, List.length_eraseIdx_of_lt hpl]
              omega
            · rw [upd_other _ hq]; exact hln q
      · have hdec : decide (t ∈ fk ok) = false := by simpa using hin
        have hsr := fun W hW => search_own (w := W) (v := .slice a (fk ok).length c) (l := fk ok) hW (hso ok) (by have := hln ok; omega) t
        rw [hdec] at hsr
        refine (hsr wr.drew.drew.drew ho1).mono ?_
        rintro e w' ⟨rfl, q, rfl⟩
        refine hK _ _ ⟨c0, c1, c2⟩ ?_
        clear hK K
        try simp only [Act.put, List.setIfInBounds_toArray, List.set_cons_zero, List.set_cons_succ]
        iterate 5
          apply Thr.read rfl
          · intro w' hS
            go_simp
            (repeat rw [if_pos (by omega)])
            try with_reducible rfl
          simp only [Act.put, List.setIfInBounds_toArray, List.set_cons_zero, List.set_cons_succ]
        refine Thr.done ?_
        go_wp2_with fail
        have HSTOP : Hid (¬ (ok < y.n ∧ sib sk ok ∈ fk ok)) := fun hh => hin (HT.out ▸ hh.2)
        replace hb : (wr.drewN (1 + (1 + (1 + q)))).heap[B]? = some (.cells #[.int .i64 (sk : Int), .int .i64 (ok : Int)] 31 (0, 0)) := hb
        replace hy : YardAt (wr.drewN (1 + (1 + (1 + q)))) yb ck { y with free := fk } := hy.below ⟨rfl, rfl, rfl, Nat.le_refl _, fun _ _ => rfl⟩
        replace hst : Step w yb cs (wr.drewN (1 + (1 + (1 + q)))) ck := hst.below ⟨rfl, rfl, rfl, Nat.le_refl _, fun _ _ => rfl⟩
        replace c0 : (wr.drewN (1 + (1 + (1 + q)))).cell? ⟨B, 0, none⟩ = some (.int .i64 (sk : Int)) := c0
        replace c1 : (wr.drewN (1 + (1 + (1 + q)))).cell? ⟨B, 1, none⟩ = some (.int .i64 (ok : Int)) := c1
        replace c2 : (wr.drewN (1 + (1 + (1 + q)))).cell? ⟨yb, 1 + ok, none⟩ = some (.slice a (fk ok).length c) := c2
        replace ho1 : OwnN (wr.drewN (1 + (1 + (1 + q)))) (.slice a (fk ok).length c) (fk ok) := ho1
        generalize wr.drewN (1 + (1 + (1 + q))) = W2 at *
        refine Thr.drawn [(0, false), (1, false), (2, false), (3, false), (4, false), (5, false), (6, false), (7, false), (8, false), (9, true), (10, false), (11, false), (12, false), (13, false), (14, false)] 15
          (fun w' => w'.cell? ⟨B, 0, none⟩ = some (.int .i64 (sk : Int)) ∧ w'.cell? ⟨B, 1, none⟩ = some (.int .i64 (ok : Int)) ∧ w'.cell? ⟨yb, 1 + ok, none⟩ = some (.slice a (fk ok).length c)) (by kernel_rfl) (by kernel_rfl) (fun c a w d v h => by cases d <;> exact h) ⟨c0, c1, c2⟩ ?_
        simp only [Thr.pick, Array.reduceGetElem?]
        iterate 9
          apply Thr.read rfl
          · intro w' hS
            go_simp
            (repeat rw [if_pos (by omega)])
            try with_reducible rfl
          simp only [Act.put, List.setIfInBounds_toArray, List.set_cons_zero, List.set_cons_succ]
        apply Thr.act rfl
        intro K hK
        go_simp
        refine (search_own (w := W2.drew) ho1 (hso ok) (by have := hln ok; omega) sk).mono ?_
        rintro e w' ⟨rfl, q1, rfl⟩
        refine hK _ _ ⟨c0, c1, c2⟩ ?_
        clear hK K
        try simp only [Act.put, List.setIfInBounds_toArray, List.set_cons_zero, List.set_cons_succ]
        iterate 5
          apply Thr.read rfl
          · intro w' hS
            go_simp
            (repeat rw [if_pos (by omega)])
            try with_reducible rfl
          simp only [Act.put, List.setIfInBounds_toArray, List.set_cons_zero, List.set_cons_succ]
        refine Thr.done ?_
        go_wp2_with fail
        replace hb : (W2.drew.drewN q1).heap[B]? = some (.cells #[.int .i64 (sk : Int), .int .i64 (ok : Int)] 31 (0, 0)) := hb
        replace hy : YardAt (W2.drew.drewN q1) yb ck { y with free := fk } := hy.below ⟨rfl, rfl, rfl, Nat.le_refl _, fun _ _ => rfl⟩
        replace hst : Step w yb cs (W2.drew.drewN q1) ck := hst.below ⟨rfl, rfl, rfl, Nat.le_refl _, fun _ _ => rfl⟩
        replace c0 : (W2.drew.drewN q1).cell? ⟨B, 0, none⟩ = some (.int .i64 (sk : Int)) := c0
        replace c1 : (W2.drew.drewN q1).cell? ⟨B, 1, none⟩ = some (.int .i64 (ok : Int)) := c1
        replace c2 : (W2.drew.drewN q1).cell? ⟨yb, 1 + ok, none⟩ = some (.slice a (fk ok).length c) := c2
        replace ho1 : OwnN (W2.drew.drewN q1) (.slice a (fk ok).length c) (fk ok) := ho1
        generalize W2.drew.drewN q1 = W4 at *
        obtain ⟨p, hp⟩ : ∃ p, p = posK id sk (fk ok) := ⟨_, rfl⟩
        have hpl : p ≤ (fk ok).length := by rw [hp]; exact posK_le _ _ _
        have HP := Lib.hid hp
        rw [← hp]
        clear hp
        refine Thr.drawn [(0, false), (1, false), (2, false), (3, false), (4, false), (5, false), (6, false), (7, false), (8, false), (9, false), (10, false), (11, false), (12, false), (15, false), (16, false), (13, true), (14, true), (17, false), (18, true)] 18
          (fun w' => w'.cell? ⟨B, 0, none⟩ = some (.int .i64 (sk : Int)) ∧ w'.cell? ⟨B, 1, none⟩ = some (.int .i64 (ok : Int)) ∧ w'.cell? ⟨yb, 1 + ok, none⟩ = some (.slice a (fk ok).length c)) (by kernel_rfl) (by kernel_rfl) (fun c a w d v h => by cases d <;> exact h) ⟨c0, c1, c2⟩ ?_
        simp only [Thr.pick, Array.reduceGetElem?]
        iterate 15
          apply Thr.read rfl
          · intro w' hS
            go_simp
            (repeat rw [if_pos (by omega)])
            try with_reducible rfl
          simp only [Act.put, List.setIfInBounds_toArray, List.set_cons_zero, List.set_cons_succ]
        apply Thr.act rfl
        intro K hK
        go_simp
        obtain ⟨W3, hW3⟩ : ∃ W3, W3 = (W4.alloc (.cells #[.int .i64 (sk : Int)] 3)).drew := ⟨_, rfl⟩
        rw [← hW3]
        have hvb : W3.heap[W4.heap.size]? = some (.cells #[.int .i64 (sk : Int)] 3 (0, 0)) := by rw [hW3]; exact box_heap W4 _ _
        have b3 : Below W4.heap.size W4 W3 := by rw [hW3]; exact (below_alloc' W4 _).drew
        have hVn : ∀ k, V.ownBlock = some k → k ≠ yb ∧ k ≠ B ∧ k < W4.heap.size := fun k hk => by
          rw [HV.out] at hk
          exact ⟨fun e => hy.own (1 + ok) (by omega) (by omega) (e ▸ hk), fun e => hnf (.inr ⟨1 + ok, by omega, by omega, e ▸ hk⟩), hy.slot_lt (1 + ok) (by omega) (by omega) k hk⟩
        replace hy := hy.below b3
        replace hst := hst.below b3
        replace c0 := (b3.cell (p := ⟨B, 0, none⟩) (World.block_lt_of_cell? _ _ c0)).trans c0
        replace c1 := (b3.cell (p := ⟨B, 1, none⟩) (World.block_lt_of_cell? _ _ c1)).trans c1
        replace c2 := (b3.cell (p := ⟨yb, 1 + ok, none⟩) (World.block_lt_of_cell? _ _ c2)).trans c2
        replace ho1 : OwnN W3 (.slice a (fk ok).length c) (fk ok) := by rw [← HF.out, HV.out]; exact hy.free ok (by omega)
        clear hW3
        refine hK _ _ ⟨c0, c1, c2⟩ ?_
        clear hK K
        try simp only [Act.put, List.setIfInBounds_toArray, List.set_cons_zero, List.set_cons_succ]
        apply Thr.act rfl
        intro K hK
        go_simp
        refine (insN (w := W3) ho1 p sk W4.heap.size hpl hvb (by rw [← HF.out]; exact fun e => by have := (hVn _ e).2.2; omega) (hln ok)).mono ?_
        rintro e w' ⟨v', rfl, hd, hmv⟩
        obtain ⟨L', hL'⟩ : ∃ L', L' = (fk ok).take p ++ sk :: (fk ok).drop p := ⟨_, rfl⟩
        rw [← hL'] at hd
        have HL' := Lib.hid hL'
        clear hL'
        rw [← HF.out] at hmv
        have e0 := hmv.grown.cell c0 (fun e => (hVn _ e.symm).2.1 rfl)
        have e1 := hmv.grown.cell c1 (fun e => (hVn _ e.symm).2.1 rfl)
        have e2 := hmv.grown.cell c2 (fun e => (hVn _ e.symm).1 rfl)
        have e3 : w'.frozen? ⟨yb, 1 + ok, none⟩ = false := by
          rw [World.frozen?_of_block (hmv.grown.block yb hy.lt (fun e => (hVn _ e.symm).1 rfl))]
          exact hy.frozen _
        refine hK _ _ ⟨e0, e1, e2⟩ ?_
        clear hK K
        obtain ⟨a', c', rfl, _, _, _⟩ := own_form hd
        try simp only [Act.put, List.setIfInBounds_toArray, List.set_cons_zero, List.set_cons_succ]
        apply Thr.read rfl
        · intro w' hS
          go_simp
          (repeat rw [if_pos (by omega)])
          try with_reducible rfl
        simp only [Act.put, List.setIfInBounds_toArray, List.set_cons_zero, List.set_cons_succ]
        apply Thr.last rfl
        intro K hK
        go_simp
        refine hK _ _ ?_
        go_wp2_with fail
        go_end0
        rw [HV.out] at hmv
        have hput := hy.put_free ok (by omega) hmv hd
        have hE : layF y.n y.free s o = upd fk ok L' := by
          rw [← HL.out, layF_stop _ _ _ _ HSTOP.out, HL'.out, HP.out]; rfl
        rw [hE]
        exact ⟨rfl, _, hput.1, hst.trans hput.2⟩
    · have hlt' : ¬ (ok : Int) < (y.n : Int) := by omega
      have hge' : (y.n : Int) ≤ (ok : Int) := by omega
      go_wp2_with fail
      refine Thr.drawn [(0, false), (1, false), (2, false), (3, false), (4, false), (5, false), (6, false)] 7
        (fun w' => w'.cell? ⟨B, 0, none⟩ = some (.int .i64 (sk : Int)) ∧ w'.cell? ⟨B, 1, none⟩ = some (.int .i64 (ok : Int)) ∧ w'.cell? ⟨yb, 0, none⟩ = some (.int .i64 (y.n : Int))) (by kernel_rfl) (by kernel_rfl) (fun c a w d v h => by cases d <;> exact h) ⟨c0, c1, q0⟩ ?_
      simp only [Thr.pick, Array.reduceGetElem?]
      iterate 7
        apply Thr.read rfl
        · intro w' hS
          go_simp
          (repeat rw [if_pos (by omega)])
          try with_reducible rfl
        simp only [Act.put, List.setIfInBounds_toArray, List.set_cons_zero, List.set_cons_succ]
      refine Thr.done ?_
      go_wp2_with fail
      have HSTOP : Hid (¬ (ok < y.n ∧ sib sk ok ∈ fk ok)) := fun hh => hlt hh.1
      replace hb : (wr.drew).heap[B]? = some (.cells #[.int .i64 (sk : Int), .int .i64 (ok : Int)] 31 (0, 0)) := hb
      replace hy : YardAt (wr.drew) yb ck { y with free := fk } := hy.below ⟨rfl, rfl, rfl, Nat.le_refl _, fun _ _ => rfl⟩
      replace hst : Step w yb cs (wr.drew) ck := hst.below ⟨rfl, rfl, rfl, Nat.le_refl _, fun _ _ => rfl⟩
      replace c0 : (wr.drew).cell? ⟨B, 0, none⟩ = some (.int .i64 (sk : Int)) := c0
      replace c1 : (wr.drew).cell? ⟨B, 1, none⟩ = some (.int .i64 (ok : Int)) := c1
      replace c2 : (wr.drew).cell? ⟨yb, 1 + ok, none⟩ = some (.slice a (fk ok).length c) := c2
      replace ho1 : OwnN (wr.drew) (.slice a (fk ok).length c) (fk ok) := ho1
      generalize wr.drew = W2 at *
      refine Thr.drawn [(0, false), (1, false), (2, false), (3, false), (4, false), (5, false), (6, false), (7, false), (8, false), (9, true), (10, false), (11, false), (12, false), (13, false), (14, false)] 15
        (fun w' => w'.cell? ⟨B, 0, none⟩ = some (.int .i64 (sk : Int)) ∧ w'.cell? ⟨B, 1, none⟩ = some (.int .i64 (ok : Int)) ∧ w'.cell? ⟨yb, 1 + ok, none⟩ = some (.slice a (fk ok).length c)) (by kernel_rfl) (by kernel_rfl) (fun c a w d v h => by cases d <;> exact h) ⟨c0, c1, c2⟩ ?_
      simp only [Thr.pick, Array.reduceGetElem?]
      iterate 9
        apply Thr.read rfl
        · intro w' hS
          go_simp
          (repeat rw [if_pos (by omega)])
          try with_reducible rfl
        simp only [Act.put, List.setIfInBounds_toArray, List.set_cons_zero, List.set_cons_succ]
      apply Thr.act rfl
      intro K hK
      go_simp
      refine (search_own (w := W2.drew) ho1 (hso ok) (by have := hln ok; omega) sk).mono ?_
      rintro e w' ⟨rfl, q1, rfl⟩
      refine hK _ _ ⟨c0, c1, c2⟩ ?_
      clear hK K
      try simp only [Act.put, List.setIfInBounds_toArray, List.set_cons_zero, List.set_cons_succ]
      iterate 5
        apply Thr.read rfl
        · intro w' hS
          go_simp
          (repeat rw [if_pos (by omega)])
          try with_reducible rfl
        simp only [Act.put, List.setIfInBounds_toArray, List.set_cons_zero, List.set_cons_succ]
      refine Thr.done ?_
      go_wp2_with fail
      replace hb : (W2.drew.drewN q1).heap[B]? = some (.cells #[.int .i64 (sk : Int), .int .i64 (ok : Int)] 31 (0, 0)) := hb
      replace hy : YardAt (W2.drew.drewN q1) yb ck { y with free := fk } := hy.below ⟨rfl, rfl, rfl, Nat.le_refl _, fun _ _ => rfl⟩
      replace hst : Step w yb cs (W2.drew.drewN q1) ck := hst.below ⟨rfl, rfl, rfl, Nat.le_refl _, fun _ _ => rfl⟩
      replace c0 : (W2.drew.drewN q1).cell? ⟨B, 0, none⟩ = some (.int .i64 (sk : Int)) := c0
      replace c1 : (W2.drew.drewN q1).cell? ⟨B, 1, none⟩ = some (.int .i64 (ok : Int)) := c1
      replace c2 : (W2.drew.drewN q1).cell? ⟨yb, 1 + ok, none⟩ = some (.slice a (fk ok).length c) := c2
      replace ho1 : OwnN (W2.drew.drewN q1) (.slice a (fk ok).length c) (fk ok) := ho1
      generalize W2.drew.drewN q1 = W4 at *
      obtain ⟨p, hp⟩ : ∃ p, p = posK id sk (fk ok) := ⟨_, rfl⟩
      have hpl : p ≤ (fk ok).length := by rw [hp]; exact posK_le _ _ _
      have HP := Lib.hid hp
      rw [← hp]
      clear hp
      refine Thr.drawn [(0, false), (1, false), (2, false), (3, false), (4, false), (5, false), (6, false), (7, false), (8, false), (9, false), (10, false), (11, false), (12, false), (15, false), (16, false), (13, true), (14, true), (17, false), (18, true)] 18
        (fun w' => w'.cell? ⟨B, 0, none⟩ = some (.int .i64 (sk : Int)) ∧ w'.cell? ⟨B, 1, none⟩ = some (.int .i64 (ok : Int)) ∧ w'.cell? ⟨yb, 1 + ok, none⟩ = some (.slice a (fk ok).length c)) (by kernel_rfl) (by kernel_rfl) (fun c a w d v h => by cases d <;> exact h) ⟨c0, c1, c2⟩ ?_
      simp only [Thr.pick, Array.reduceGetElem?]
      iterate 15
        apply Thr.read rfl
        · intro w' hS
          go_simp
          (repeat rw [if_pos (by omega)])
          try with_reducible rfl
        simp only [Act.put, List.setIfInBounds_toArray, List.set_cons_zero, List.set_cons_succ]
      apply Thr.act rfl
      intro K hK
      go_simp
      obtain ⟨W3, hW3⟩ : ∃ W3, W3 = (W4.alloc (.cells #[.int .i64 (sk : Int)] 3)).drew := ⟨_, rfl⟩
      rw [← hW3]
      have hvb : W3.heap[W4.heap.size]? = some (.cells #[.int .i64 (sk : Int)] 3 (0, 0)) := by rw [hW3]; exact box_heap W4 _ _
      have b3 : Below W4.heap.size W4 W3 := by rw [hW3]; exact (below_alloc' W4 _).drew
      have hVn : ∀ k, V.ownBlock = some k → k ≠ yb ∧ k ≠ B ∧ k < W4.heap.size := fun k hk => by
        rw [HV.out] at hk
        exact ⟨fun e => hy.own (1 + ok) (by omega) (by omega) (e ▸ hk), fun e => hnf (.inr ⟨1 + ok, by omega, by omega, e ▸ hk⟩), hy.slot_lt (1 + ok) (by omega) (by omega) k hk⟩
      replace hy := hy.below b3
      replace hst := hst.below b3
      replace c0 := (b3.cell (p := ⟨B, 0, none⟩) (World.block_lt_of_cell? _ _ c0)).trans c0
      replace c1 := (b3.cell (p := ⟨B, 1, none⟩) (World.block_lt_of_cell? _ _ c1)).trans c1
      replace c2 := (b3.cell (p := ⟨yb, 1 + ok, none⟩) (World.block_lt_of_cell? _ _ c2)).trans c2
      replace ho1 : OwnN W3 (.slice a (fk ok).length c) (fk ok) := by rw [← HF.out, HV.out]; exact hy.free ok (by omega)
      clear hW3
      refine hK _ _ ⟨c0, c1, c2⟩ ?_
      clear hK K
      try simp only [Act.put, List.setIfInBounds_toArray, List.set_cons_zero, List.set_cons_succ]
      apply Thr.act rfl
      intro K hK
      go_simp
      refine (insN (w := W3) ho1 p sk W4.heap.size hpl hvb (by rw [← HF.out]; exact fun e => by have := (hVn _ e).2.2; omega) (hln ok)).mono ?_
      rintro e w' ⟨v', rfl, hd, hmv⟩
      obtain ⟨L', hL'⟩ : ∃ L', L' = (fk ok).take p ++ sk :: (fk ok).drop p := ⟨_, rfl⟩
      rw [← hL'] at hd
      have HL' := Lib.hid hL'
      clear hL'
      rw [← HF.out] at hmv
      have e0 := hmv.grown.cell c0 (fun e => (hVn _ e.symm).2.1 rfl)
      have e1 := hmv.grown.cell c1 (fun e => (hVn _ e.symm).2.1 rfl)
      have e2 := hmv.grown.cell c2 (fun e => (hVn _ e.symm).1 rfl)
      have e3 : w'.frozen? ⟨yb, 1 + ok, none⟩ = false := by
        rw [World.frozen?_of_block (hmv.grown.block yb hy.lt (fun e => (hVn _ e.symm).1 rfl))]
        exact hy.frozen _
      refine hK _ _ ⟨e0, e1, e2⟩ ?_
      clear hK K
      obtain ⟨a', c', rfl, _, _, _⟩ := own_form hd
      try simp only [Act.put, List.setIfInBounds_toArray, List.set_cons_zero, List.set_cons_succ]
      apply Thr.read rfl
      · intro w' hS
        go_simp
        (repeat rw [if_pos (by omega)])
        try with_reducible rfl
      simp only [Act.put, List.setIfInBounds_toArray, List.set_cons_zero, List.set_cons_succ]
      apply Thr.last rfl
      intro K hK
      go_simp
      refine hK _ _ ?_
      go_wp2_with fail
      go_end0
      rw [HV.out] at hmv
      have hput := hy.put_free ok (by omega) hmv hd
      have hE : layF y.n y.free s o = upd fk ok L' := by
        rw [← HL.out, layF_stop _ _ _ _ HSTOP.out, HL'.out, HP.out]; rfl
      rw [hE]
      exact ⟨rfl, _, hput.1, hst.trans hput.2⟩
end Go.Proofs.Ythmgnfkjkdmdoaa
