/- Contract: Free. -/
import Derived.Test.YthmgnfkjkdmdoaaSmall
import Derived.Test.YthmgnfkjkdmdoaaSort
import Derived.Deep.LoopGhost
import Derived.Shelf.SlSortCmp.NoneTotal
set_option linter.unusedSimpArgs false
set_option linter.unusedVariables false
namespace Go.Proofs.Ythmgnfkjkdmdoaa
open Go Go.RowKit Bud

/-- The free blocks of one order, from the list. -/
def mk_ (o : Nat) (l : List Nat) : List Blk := l.map fun s => ⟨s, o⟩
def upTo (f : Nat → List Nat) (k : Nat) : List Blk := (List.range k).flatMap fun o => mk_ o (f o)
theorem upTo_succ (f : Nat → List Nat) (k : Nat) : upTo f (k + 1) = upTo f k ++ mk_ k (f k) := by simp [upTo, List.range_succ]

theorem arr_get (cs : Array Value) (k : Nat) (hk : k < 11) : (#[at_ cs 1, at_ cs 2, at_ cs 3, at_ cs 4, at_ cs 5, at_ cs 6, at_ cs 7, at_ cs 8, at_ cs 9, at_ cs 10, at_ cs 11] : Array Value)[k]? = some (at_ cs (1 + k)) := by
  have : k = 0 ∨ k = 1 ∨ k = 2 ∨ k = 3 ∨ k = 4 ∨ k = 5 ∨ k = 6 ∨ k = 7 ∨ k = 8 ∨ k = 9 ∨ k = 10 := by omega
  rcases this with rfl | rfl | rfl | rfl | rfl | rfl | rfl | rfl | rfl | rfl | rfl <;> rfl

theorem run_index60 (A : Array Value) (k : Nat) (hk : k < 11) (v : Value) (hv : A[k]? = some v) (w : World) : (Instr.index 60 (.agg A) (.int .i64 (k : Int))).run Try.prog w = .ok v w := by
  have u := Try.underlying60
  simp [Instr.index, run_underlying u, asIntOf, hv, go_sem]
  omega

set_option maxHeartbeats 8000000 in
set_option maxRecDepth 100000 in
theorem free_walk {w : World} {yb : Nat} {cs : Array Value} {y : Yd} (h : YardAt w yb cs y) (hl : (upTo y.free 11).length ≤ 1048576)
    (hsort : ∀ W v, OwnB W v (upTo y.free 11) → (∀ k, v.ownBlock = some k → w.heap.size ≤ k) → Below w.heap.size w W → Calls Try.prog 33 #[v, .func (.func 34) #[] #[]] W fun e w' => e = .returned (.tuple #[]) ∧ ∃ l', l'.Perm (upTo y.free 11) ∧ SortK Blk.s l' ∧ OwnB w' v l' ∧ Keeps (fun k => v.ownBlock = some k) W w') :
    Calls Try.prog 8 #[.pointer (some ⟨yb, 0, none⟩)] w fun e w' => ∃ v' l', e = .returned v' ∧ l'.Perm (upTo y.free 11) ∧ SortK Blk.s l' ∧ OwnB w' v' l' ∧ (∀ k, v'.ownBlock = some k → w.heap.size ≤ k) ∧ Below w.heap.size w w' := by
  have HSO := Lib.hid hsort
  clear hsort
  have c1 : w.cell? ⟨yb, 1, none⟩ = some (at_ cs 1) := h.cell 1 (by omega)
  have c2 : w.cell? ⟨yb, 2, none⟩ = some (at_ cs 2) := h.cell 2 (by omega)
  have c3 : w.cell? ⟨yb, 3, none⟩ = some (at_ cs 3) := h.cell 3 (by omega)
  have c4 : w.cell? ⟨yb, 4, none⟩ = some (at_ cs 4) := h.cell 4 (by omega)
  have c5 : w.cell? ⟨yb, 5, none⟩ = some (at_ cs 5) := h.cell 5 (by omega)
  have c6 : w.cell? ⟨yb, 6, none⟩ = some (at_ cs 6) := h.cell 6 (by omega)
  have c7 : w.cell? ⟨yb, 7, none⟩ = some (at_ cs 7) := h.cell 7 (by omega)
  have c8 : w.cell? ⟨yb, 8, none⟩ = some (at_ cs 8) := h.cell 8 (by omega)
  have c9 : w.cell? ⟨yb, 9, none⟩ = some (at_ cs 9) := h.cell 9 (by omega)
  have c10 : w.cell? ⟨yb, 10, none⟩ = some (at_ cs 10) := h.cell 10 (by omega)
  have c11 : w.cell? ⟨yb, 11, none⟩ = some (at_ cs 11) := h.cell 11 (by omega)
  obtain ⟨ARR, hARR⟩ : ∃ ARR : Array Value, ARR = #[at_ cs 1, at_ cs 2, at_ cs 3, at_ cs 4, at_ cs 5, at_ cs 6, at_ cs 7, at_ cs 8, at_ cs 9, at_ cs 10, at_ cs 11] := ⟨_, rfl⟩
  have hget : ∀ k, k < 11 → ARR[k]? = some (at_ cs (1 + k)) := fun k hk => by rw [hARR]; exact arr_get cs k hk
  have hsz : ARR.size = 11 := by rw [hARR]; rfl
  have HGET := Lib.hid hget
  have HARR := Lib.hid hARR
  clear hARR hget
  go_enter Try.func8, Try.ntmps8
  go_wp2_with fail
  rw [← HARR.out]
  clear c1 c2 c3 c4 c5 c6 c7 c8 c9 c10 c11
  go_loopg [3, 14] 11 (fun g s3 s14 wr => ∃ k : Nat, s14 = .int .i64 (k : Int) ∧ k ≤ 11 ∧ 11 - k ≤ g ∧ wr.ownsRow w.heap.size 31 2 s3 (upTo y.free k).length (bv (upTo y.free k)) ∧ Below w.heap.size w wr)
  case atStart => exact ⟨0, rfl, by omega, by omega, ⟨rfl, .inl ⟨rfl, rfl⟩⟩, Below.refl _ _⟩
  case round =>
    obtain ⟨k, rfl, hk, hgk, hown, hbl⟩ := hrel
    by_cases hlt : k < 11
    · have hlt' : (k : Int) < 11 := by omega
      have i0 : (0 : Int) ≤ (k : Int) := by omega
      obtain ⟨a, c, hf, hn, hc, hg⟩ := own_form (h.free k hlt)
      have hidx : ARR[k]? = some (.slice a (y.free k).length c) := by rw [HGET.out k hlt, hf]
      have hfr : OwnN w (.slice a (y.free k).length c) (y.free k) := by rw [← hf]; exact h.free k hlt
      clear hf
      have hix := run_index60 ARR k hlt _ hidx
      obtain ⟨l, hll⟩ : ∃ l, l = y.free k := ⟨_, rfl⟩
      rw [← hll] at hix hfr hn hg
      have hup := upTo_succ y.free k
      rw [← hll] at hup
      have hlup : (upTo y.free (k + 1)).length ≤ 1048576 := by
        have e : upTo y.free 11 = upTo y.free (k + 1) ++ ((List.range (11 - (k + 1))).map (k + 1 + ·)).flatMap fun o => mk_ o (y.free o) := by
          unfold upTo
          rw [← List.flatMap_append, ← List.range_add, show k + 1 + (11 - (k + 1)) = 11 by omega]
        rw [e, List.length_append] at hl
        omega
      rw [hup] at hlup
      obtain ⟨M, hM⟩ : ∃ M, M = upTo y.free k := ⟨_, rfl⟩
      rw [← hM] at hown hup hlup
      have HUP := Lib.hid hup
      obtain ⟨n, hnl⟩ : ∃ n, n = l.length := ⟨_, rfl⟩
      rw [← hnl] at hix hn hg hfr
      have HN := Lib.hid hnl
      have hnb : n ≤ 1048576 := by
        simp only [List.length_append, mk_, List.length_map] at hlup
        omega
      obtain ⟨go, rfl⟩ : ∃ go, go = gk := ⟨_, rfl⟩
      clear hidx hll hup hM hnl
      go_wp2_with fail
      go_loopg [3, 20] n (fun g s3 s20 wi => ∃ j : Nat, s20 = .int .i64 (j : Int) ∧ j ≤ n ∧ n - j ≤ g ∧ wi.ownsRow w.heap.size 31 2 s3 (M ++ mk_ k (l.take j)).length (bv (M ++ mk_ k (l.take j))) ∧ Below w.heap.size w wi)
      case atStart => exact ⟨0, rfl, by omega, by omega, by simpa [mk_] using hown, hbl⟩
      case round =>
        clear hown hbl
        obtain ⟨j, rfl, hj, hgj, hown, hbl⟩ := hrel
        by_cases hjl : j < n
        · have hjl' : (j : Int) < (n : Int) := by omega
          obtain ⟨b, rfl⟩ := hg.resolve_left (by omega)
          have j0 : (0 : Int) ≤ (j : Int) := by omega
          obtain ⟨s, hs⟩ : ∃ s, l[j]? = some s := ⟨_, List.getElem?_eq_getElem (by have := HN.out; omega)⟩
          have e0 : w.cell? ⟨b, j, none⟩ = some (.int .i64 (s : Int)) := own_cells (n := n) (by have := HN.out; subst this; exact hfr) j _ (by simp [nv, hs])
          replace e0 := (hbl.cell (p := ⟨b, j, none⟩) (World.block_lt_of_cell? w _ e0)).trans e0
          have htk : M ++ mk_ k (l.take (j + 1)) = (M ++ mk_ k (l.take j)) ++ [⟨s, k⟩] := by
            rw [List.take_add_one, hs]
            simp [mk_]
          obtain ⟨N, hN⟩ : ∃ N, N = M ++ mk_ k (l.take j) := ⟨_, rfl⟩
          rw [← hN] at hown htk
          have hNl : N.length ≤ 1048576 := by
            rw [hN]
            simp only [List.length_append, mk_, List.length_map, List.length_take] at hlup ⊢
            omega
          have HTK := Lib.hid htk
          obtain ⟨i0', hi0, hz0, hz1, hz2⟩ := info_parts info31
          obtain ⟨v', W2, hrun, hown', hgr, _⟩ := run_append_own (P := Try.prog) (wr.alloc (.cells #[.int .i64 (s : Int), .int .i64 (k : Int)] 31)) w.heap.size 26 26 31 i0' (.agg #[.int .i64 0, .int .i64 0]) 2 16 Try.underlying26 hi0 hz0 hz1 hz2 rfl (by omega)
            u3 N.length (bv N) (hown.alloc _) ⟨wr.heap.size, 0, none⟩ 1 1 [.int .i64 (s : Int), .int .i64 (k : Int)] rfl (fun j u hu => by
              obtain ⟨x0, x1⟩ := two_cells (box_heap wr #[.int .i64 (s : Int), .int .i64 (k : Int)] 31)
              match j, hu with
              | 0, hu => rw [← hu]; exact x0
              | 1, hu => rw [← hu]; exact x1) (by intro u hu; simp at hu; rcases hu with rfl | rfl <;> rfl) (by simp [maxLen]; omega) (by omega) (by simp; exact Nat.le_trans hbl.size (Nat.le_succ _))
          have hbl2 : Below w.heap.size w W2 := (hbl.trans ((below_alloc' wr (.cells #[.int .i64 (s : Int), .int .i64 (k : Int)] 31)).mono hbl.size)).grown hgr (by simp; exact Nat.le_trans hbl.size (Nat.le_succ _)) (fun k hk => (hown.lt k hk).1)
          have hbv : bv N ++ [.int .i64 (s : Int), .int .i64 (k : Int)] = bv (N ++ [⟨s, k⟩]) := by rw [bv_append]; rfl
          rw [hbv] at hown'
          have hln : N.length + 1 = (N ++ [(⟨s, k⟩ : Blk)]).length := by simp
          rw [hln] at hown'
          have HR := Lib.hid hrun
          clear hs htk hN hrun hbv hln hfr hix hi0 hz0 hz1 hz2
          go_wp2_with (refine Row.list_append HR.out rfl rfl rfl rfl ?_)
          rw [show (j : Int) + 1 = ((j + 1 : Nat) : Int) by omega]
          go_roundg (gk - 1)
          case measure => omega
          case rel => exact ⟨j + 1, rfl, by omega, by omega, by rw [HTK.out]; exact hown', hbl2⟩
        · have hjl' : ¬ ((j : Int) < (n : Int)) := by omega
          have htk : M ++ mk_ k (l.take j) = upTo y.free (k + 1) := by rw [HUP.out, List.take_of_length_le (by have := HN.out; omega)]
          rw [htk] at hown
          have HO := Lib.hid hown
          clear htk hown
          go_wp2_with fail
          rw [show (k : Int) + 1 = ((k + 1 : Nat) : Int) by omega]
          go_roundg (go - 1)
          case measure => omega
          case rel => exact ⟨k + 1, rfl, by omega, by omega, HO.out, hbl⟩
    · have hlt' : ¬ ((k : Int) < 11) := by omega
      obtain rfl : k = 11 := by omega
      have hso := HSO.out wr u3 (own_new hown).1 (own_new hown).2 hbl
      have HF := Lib.hid (own_new hown).2
      clear hown
      go_wp2_with fail
      refine hso.mono ?_
      rintro e w2 ⟨rfl, l', h1, h2, h3, h4⟩
      go_wp2_with fail
      go_ret
      refine ⟨_, l', rfl, h1, h2, h3, HF.out, ?_⟩
      exact ⟨h4.os.trans hbl.os, h4.tape.trans hbl.tape, h4.output.trans hbl.output, Nat.le_trans hbl.size h4.size, fun i hi => (h4.block i (Nat.lt_of_lt_of_le hi hbl.size) (fun hk => by have := HF.out i hk; omega)).trans (hbl.block i hi)⟩

theorem free_calls {w : World} {yb : Nat} {cs : Array Value} {y : Yd} (h : YardAt w yb cs y) (hl : (upTo y.free 11).length ≤ 1048576) :
    Calls Try.prog 8 #[.pointer (some ⟨yb, 0, none⟩)] w fun e w' => ∃ v' l', e = .returned v' ∧ l'.Perm (upTo y.free 11) ∧ SortK Blk.s l' ∧ OwnB w' v' l' ∧ (∀ k, v'.ownBlock = some k → w.heap.size ≤ k) ∧ Below w.heap.size w w' := by
  refine free_walk h hl fun W v hv hf hb => ?_
  by_cases h0 : (upTo y.free 11).length = 0
  · have he : upTo y.free 11 = [] := List.length_eq_zero_iff.1 h0
    rw [he] at hv ⊢
    obtain ⟨a, c, hv2, _⟩ := own_form hv
    rw [hv2]
    refine (AnyF.slices_SortFunc_none Try.laysSlF06_f33 a c (.func (.func 34) #[] #[]) W).mono ?_
    rintro e w' ⟨rfl, rfl⟩
    exact ⟨rfl, [], List.Perm.refl _, List.Pairwise.nil, by rw [← hv2]; exact hv, Keeps.refl _ _⟩
  · exact sort_blocks hv (by omega) h0
theorem free_nil (w : World) : Calls Try.prog 8 #[.pointer none] w fun e w' => e = .returned (.slice none 0 0) ∧ w' = w := by
  go_enter Try.func8, Try.ntmps8
  go_wp2_with fail
  go_ret
  exact ⟨rfl, rfl⟩
end Go.Proofs.Ythmgnfkjkdmdoaa
