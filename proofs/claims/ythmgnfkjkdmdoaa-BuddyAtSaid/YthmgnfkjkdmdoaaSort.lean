/- Contracts: the closure of Free, slices.SortFunc with it. -/
import Derived.Test.YthmgnfkjkdmdoaaBsf
import Derived.Shelf.SlSortCmp.WholeK
set_option linter.unusedSimpArgs false
set_option linter.unusedVariables false
namespace Go.Proofs.Ythmgnfkjkdmdoaa
open Go Go.RowKit Go.Lib Go.Sort Bud

instance : Inhabited Blk := ⟨⟨0, 0⟩⟩

/-- Blocks against their starts. -/
def cmpS (x y : Blk) : Int := Lib.compareInt (x.s : Int) (y.s : Int)
theorem ltS (x y : Blk) : ltOf cmpS x y = decide (x.s < y.s) := by
  unfold ltOf cmpS Lib.compareInt
  by_cases h1 : x.s < y.s
  · simp [h1]
  · by_cases h2 : y.s < x.s <;> simp [h1, h2]
theorem swoS : SWO (ltOf cmpS) where
  irrefl x := by rw [ltS]; simp
  trans x y z h1 h2 := by rw [ltS] at *; simp at *; omega
  ntrans x y z h1 h2 := by rw [ltS] at *; simp at *; omega

theorem closure34 (x y : Blk) (w : World) :
    Calls Try.prog 34 #[.agg (bc x).toArray, .agg (bc y).toArray] w fun e w' => e = .returned (.int .i64 (cmpS x y)) ∧ ∃ q os', w' = grow (w.drewN q) os' := by
  obtain ⟨s, o⟩ := x
  obtain ⟨t, p⟩ := y
  have hc := Try.cmp_Compare_int (s : Int) (t : Int)
  show Calls Try.prog 34 #[.agg #[.int .i64 (s : Int), .int .i64 (o : Int)], .agg #[.int .i64 (t : Int), .int .i64 (p : Int)]] w fun e w' => e = .returned (.int .i64 (Lib.compareInt (s : Int) (t : Int))) ∧ ∃ q os', w' = grow (w.drewN q) os'
  generalize Lib.compareInt (s : Int) (t : Int) = r at *
  go_enter Try.func34, Try.ntmps34
  go_wp2_with (go_at_call 35; refine (hc _).mono ?_; rintro e w' ⟨rfl, rfl⟩)
  go_ret
  exact ⟨rfl, 0, _, by rw [alloc_eq_grow, alloc_eq_grow, grow_grow]; rfl⟩

theorem cmpLays34 (blk off size : Nat) (w : World) : CmpLays Try.prog 34 #[] bc 2 cmpS blk off size w := fun _ _ _ _ x y => closure34 x y _

theorem flat_bv (l : List Blk) : flatK bc 2 l.toArray = (bv l).toArray := by
  refine ext_get! (by simp [length_bv]) fun t ht => ?_
  rw [size_flatK, List.size_toArray] at ht
  rw [get_flatK _ _ _ _ (by simpa using ht)]
  have hj : t / 2 < l.length := by omega
  have hb : l[t / 2]? = some l[t / 2] := List.getElem?_eq_getElem hj
  obtain ⟨h0, h1⟩ := bv_get l (t / 2) _ hb
  have e1 : l.toArray[t / 2]! = l[t / 2] := by simp [hj]
  rw [e1]
  rcases Nat.mod_two_eq_zero_or_one t with h | h
  · rw [h]
    have e : t / 2 * 2 = t := by omega
    rw [e] at h0
    have : (bv l).toArray[t]! = .int .i64 (l[t / 2].s : Int) := by
      simp_all
    rw [this]; rfl
  · rw [h]
    have e : t / 2 * 2 + 1 = t := by omega
    rw [e] at h1
    have : (bv l).toArray[t]! = .int .i64 (l[t / 2].o : Int) := by
      simp_all
    rw [this]; rfl

theorem toList_put (F c : Array Value) (h : F.size ≤ c.size) : (putCells id 0 F c).toList.take F.size = F.toList := by
  apply List.ext_getElem?
  intro i
  by_cases hi : i < F.size
  · have h1 : i < c.size := by omega
    rw [List.getElem?_take_of_lt hi]
    simp [putCells, h1, hi]
  · rw [List.getElem?_eq_none (by simp; omega), List.getElem?_eq_none (by simp; omega)]

theorem sort_blocks {w : World} {v : Value} {l : List Blk} (h : OwnB w v l) (hl : l.length ≤ 1073741824) (h0 : l.length ≠ 0) :
    Calls Try.prog 33 #[v, .func (.func 34) #[] #[]] w fun e w' => e = .returned (.tuple #[]) ∧ ∃ l', l'.Perm l ∧ SortK Blk.s l' ∧ OwnB w' v l' ∧ Keeps (fun k => v.ownBlock = some k) w w' := by
  rcases h.2 with ⟨_, hz⟩ | ⟨g, cap, cur, rfl, _, hg, hn, hc, hs, ht⟩
  · exact absurd hz h0
  have hglt : g < w.heap.size := (Array.getElem?_eq_some_iff.1 hg).1
  have hH : HoldsK bc 2 w g 0 l.toArray := by
    intro j hj
    rw [size_flatK, List.size_toArray] at hj
    refine ⟨?_, by simp [World.frozen?, hg]⟩
    rw [flat_bv, Nat.zero_add]
    have hjl : j < (bv l).length := by rw [length_bv]; exact hj
    rw [own_cells h j (bv l)[j] (List.getElem?_eq_getElem hjl)]
    simp [hjl]
  have eg : ∀ args w, (callFunc 34 args).run Try.prog w = .ok (.enter 34 args) w := enters_of Try.func34 (by kernel_rfl) rfl
  have hcon := AnyQ.slices_SortFunc Try.laysSlF06_f33 2 Try.isAgg31 Try.sizeOf31 bc (fun _ => rfl) (fun x v hv => by simp [bc] at hv; rcases hv with rfl | rfl <;> rfl) cmpS swoS 34 #[] g 0 cap l.toArray w eg (cmpLays34 g 0 l.toArray.size w) hH hglt (by simp; omega)
  change Calls Try.prog 33 _ _ _ at hcon
  rw [List.size_toArray] at hcon
  refine hcon.mono ?_
  rintro e w' ⟨rfl, d', n, os, hp, hsd, rfl⟩
  refine ⟨rfl, d'.toList, ?_, ?_, ?_, ?_⟩
  · have h3 := hp.2.2
    have hsz : d'.size = l.length := by rw [hp.1, List.size_toArray]
    have e1 : d'.extract 0 l.length = d' := by rw [← hsz]; exact Array.extract_size ..
    have e2 : l.toArray.extract 0 l.length = l.toArray := by
      have := Array.extract_size (xs := l.toArray)
      rwa [List.size_toArray] at this
    rw [e1, e2] at h3
    simpa using h3
  · have hsz : d'.size = l.length := by rw [hp.1, List.size_toArray]
    refine List.pairwise_iff_getElem.2 fun i j hi hj hij => ?_
    rw [Array.length_toList] at hi hj
    have := hsd i j (Nat.zero_le _) hij (by omega)
    rw [ltS] at this
    simp only [hi, hj, getElem!_pos, decide_eq_false_iff_not, Nat.not_lt] at this
    simpa using this
  · have hsz : d'.size = l.length := by rw [hp.1, List.size_toArray]
    have hlen : d'.toList.length = l.length := by simp [hsz]
    rw [OwnB, hlen]
    have hfl := flat_bv d'.toList
    rw [Array.toArray_toList] at hfl
    have hget : (sortWorldK bc 2 w g 0 n d' os).heap[g]? = some (.cells (putCells id 0 (flatK bc 2 d') cur) 31 (0, 0)) := by
      unfold sortWorldK putRowK putRow mapBlock grow Sort.ahead
      simp only
      rw [Array.getElem?_append_left (by simpa using hglt), Array.getElem?_modify, if_pos rfl, hg]
      rfl
    refine Row.own_mk hget (Nat.zero_le _) hn hc (by simp [putCells, hs]) ?_
    have hF : (flatK bc 2 d').size = l.length * 2 := by rw [size_flatK, hsz]
    rw [← hF, toList_put _ _ (by rw [hF, hs]; exact Nat.mul_le_mul_right _ hn), hfl]
  · refine ⟨rfl, rfl, rfl, ?_, fun k hk hne => ?_⟩
    · unfold sortWorldK putRowK putRow mapBlock grow Sort.ahead
      simp
    · have hkg : g ≠ k := fun e => hne (by rw [← e]; rfl)
      unfold sortWorldK putRowK putRow mapBlock grow Sort.ahead
      simp only
      rw [Array.getElem?_append_left (by simpa using hk), Array.getElem?_modify, if_neg hkg]
end Go.Proofs.Ythmgnfkjkdmdoaa
