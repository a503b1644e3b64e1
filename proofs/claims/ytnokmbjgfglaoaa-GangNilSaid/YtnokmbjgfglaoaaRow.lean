/- Rows of memory that a call owns, element for element of k cells: what copy, clear and append with room make of them. For any program. -/
import Derived.WalkKit
import Derived.Laws.CopyOwn
import Derived.Laws.AppendOwn
namespace Go.Proofs.Ytnokmbjgfglaoaa.Row
open Go Go.RowKit
variable {P : Program}

/-- The cells of a row's block, cut and put together. -/
def put (cur : Array Value) (o : Nat) (vs : List Value) : Array Value := (cur.toList.take o ++ vs ++ cur.toList.drop (o + vs.length)).toArray

theorem size_put (cur : Array Value) (o : Nat) (vs : List Value) (h : o + vs.length ≤ cur.size) : (put cur o vs).size = cur.size := by
  simp [put]; omega

theorem heap_setRow (w : World) (g : Nat) (cur c2 : Array Value) (t : TypeId) (fr : Nat × Nat) (h : w.heap[g]? = some (.cells cur t fr)) : (w.setRow g c2).heap[g]? = some (.cells c2 t fr) := by
  simp [World.setRow, Array.getElem?_modify, h]

theorem heap_setRow_other (w : World) (g k : Nat) (c2 : Array Value) (h : k ≠ g) : (w.setRow g c2).heap[k]? = w.heap[k]? := by
  simp [World.setRow, Array.getElem?_modify]; omega

theorem setRow_setRow (w : World) (g : Nat) (c1 c2 : Array Value) : (w.setRow g c1).setRow g c2 = w.setRow g c2 := by
  unfold World.setRow
  congr 1
  apply Array.ext_getElem?
  intro k
  simp only [Array.getElem?_modify]
  by_cases hk : g = k
  · subst hk
    simp only [if_true]
    cases w.heap[g]? with
    | none => rfl
    | some o => cases o <;> rfl
  · simp [hk]

theorem grown_setRow (w : World) (g : Nat) (c : Array Value) : w.grownBy (w.setRow g c) (some g) :=
  ⟨rfl, rfl, rfl, by simp [World.setRow], fun k _ hne => heap_setRow_other w g k c (fun e => hne (by rw [e]))⟩

/-- copy(dst, src): dst lies in a row's block, from cell o on; src is read from where it lies. -/
theorem run_copy_row (w : World) (dT sT ty e : TypeId) (size : Nat) (hd : P.underlying dT = some (.slice e)) (hs : (P.info? e).map (·.size) = some size)
    (g o dLen dCap : Nat) (a : Addr) (sLen sCap : Nat) (cur : Array Value) (t : TypeId) (news : List Value) (hg : w.heap[g]? = some (.cells cur t (0, 0)))
    (hl : news.length = Nat.min sLen dLen * size) (hn : ∀ j u, news[j]? = some u → w.cell? (a.add j) = some u) (h1 : ∀ u ∈ news, u.oneCell' = true) (hfit : o + news.length ≤ cur.size) :
    (Builtin.copy_ #[dT, sT] ty #[.slice (some ⟨g, o, none⟩) dLen dCap, .slice (some a) sLen sCap]).run P w = .ok (goInt (Nat.min sLen dLen)) (w.setRow g (put cur o news)) := by
  obtain ⟨i0, hi, hsz⟩ := Option.map_eq_some_iff.1 hs
  have hf := run_firstCells_some (P := P) w size (Nat.min sLen dLen) a sLen sCap news hl hn
  have hst := run_storeCells_at P g o t news 0 cur w hg (by simpa using hfit) h1
  simp only [Nat.add_zero] at hst
  subst hsz
  simp [Builtin.copy_, run_underlying hd, Builtin.lenOf, sizeOf, typeInfo, hi, hf, hst, put]

theorem put_nil (cur : Array Value) (o : Nat) : put cur o [] = cur := by simp [put]

/-- clear(s): s lies in a row's block, from cell o on. -/
theorem run_clear_row (w : World) (t e ty : TypeId) (z : Value) (size : Nat) (ht : P.underlying t = some (.slice e)) (hv : ∀ w, (zeroValue e).run P w = .ok z w) (hz : z.cells.size = size)
    (g o n c : Nat) (cur : Array Value) (t' : TypeId) (hg : w.heap[g]? = some (.cells cur t' (0, 0))) (hfit : o + n * size ≤ cur.size) (h1 : ∀ u ∈ (Builtin.zeroCells z.cells n).toList, u.oneCell' = true) :
    (Builtin.clear_ #[t] ty #[.slice (some ⟨g, o, none⟩) n c]).run P w = .ok (.tuple #[]) (w.setRow g (put cur o (Builtin.zeroCells z.cells n).toList)) := by
  have hl : (Builtin.zeroCells z.cells n).toList.length = n * size := by simp [size_zeroCells, hz]
  have hst := run_storeCells_at P g o t' (Builtin.zeroCells z.cells n).toList 0 cur w hg (by rw [hl]; simpa using hfit) h1
  simp only [Nat.add_zero] at hst
  rcases Nat.eq_zero_or_pos n with h0 | h0
  · subst h0
    have e0 : Builtin.zeroCells z.cells 0 = #[] := by simp [Builtin.zeroCells]
    rw [e0, show (#[] : Array Value).toList = [] from rfl, put_nil, setRow_self w g cur t' (0, 0) hg]
    simp [Builtin.clear_, run_underlying ht]
  · obtain ⟨m, rfl⟩ : ∃ m, n = m + 1 := ⟨n - 1, by omega⟩
    simp [Builtin.clear_, run_underlying ht, hv, hst, put]

/-- What is owned, from its block's cells. -/
theorem own_mk {w : World} {base g n cap size : Nat} {e : TypeId} {cur : Array Value} {xs : List Value} (hg : w.heap[g]? = some (.cells cur e (0, 0))) (hb : base ≤ g) (hn : n ≤ cap) (hc : cap ≤ maxLen) (hs : cur.size = cap * size)
    (ht : cur.toList.take (n * size) = xs) : w.ownsRow base e size (.slice (some ⟨g, 0, none⟩) n cap) n xs := by
  refine ⟨?_, .inr ⟨g, cap, cur, rfl, hb, hg, hn, hc, hs, ht⟩⟩
  rw [← ht, List.length_take, Array.length_toList, hs]
  exact Nat.min_eq_left (Nat.mul_le_mul_right _ hn)

/-! ### What is left of the lists -/
theorem toList_put (cur : Array Value) (o : Nat) (vs : List Value) : (put cur o vs).toList = cur.toList.take o ++ vs ++ cur.toList.drop (o + vs.length) := by simp [put]

theorem delete_list (L z : List Value) (i n K : Nat) (_hi : i < n) (hL : n * K ≤ L.length) (h1 : i * K ≤ n * K) (h2 : i * K + K + (n - (i + 1)) * K = n * K) (hlen : ((L.take (n * K)).drop ((i + 1) * K)).length = (n - (i + 1)) * K) :
    (put (put L.toArray (i * K) ((L.take (n * K)).drop ((i + 1) * K))) ((i + (n - (i + 1))) * K) z).toList.take ((i + (n - (i + 1))) * K) = (L.take (n * K)).take (i * K) ++ (L.take (n * K)).drop ((i + 1) * K) := by
  have e : (i + (n - (i + 1))) * K = i * K + (n - (i + 1)) * K := Nat.add_mul ..
  have hl1 : (L.take (i * K)).length = i * K := by rw [List.length_take]; exact Nat.min_eq_left (by omega)
  generalize hD : (L.take (n * K)).drop ((i + 1) * K) = D at *
  rw [toList_put, toList_put, e]
  have hA : (L.toArray.toList.take (i * K) ++ D ++ L.toArray.toList.drop (i * K + D.length)).take (i * K + (n - (i + 1)) * K) = L.take (i * K) ++ D := by
    rw [List.take_append_of_le_length (by simp; omega), List.take_of_length_le (by simp; omega)]
  rw [hA, List.append_assoc, List.take_append_of_le_length (by simp; omega), List.take_of_length_le (by simp; omega), List.take_take, Nat.min_eq_left (by omega)]

theorem insert_list1 (L x D : List Value) (i n K : Nat) (hx : x.length = K) (hL : (n + 1) * K ≤ L.length) (hD : D.length = (n - i) * K) (h2 : i * K + K + (n - i) * K = (n + 1) * K) :
    (put (put L.toArray ((i + 1) * K) D) (i * K) x).toList.take ((n + 1) * K) = L.take (i * K) ++ x ++ D := by
  have e : (i + 1) * K = i * K + K := by rw [Nat.add_mul, Nat.one_mul]
  have hl1 : (L.take (i * K + K)).length = i * K + K := by rw [List.length_take]; exact Nat.min_eq_left (by omega)
  have hl2 : (L.take (i * K)).length = i * K := by rw [List.length_take]; exact Nat.min_eq_left (by omega)
  rw [toList_put, toList_put, e, hx]
  have hA : (L.toArray.toList.take (i * K + K) ++ D ++ L.toArray.toList.drop (i * K + K + D.length)).take (i * K) = L.take (i * K) := by
    rw [List.append_assoc, List.take_append_of_le_length (by simp; omega), List.take_take, Nat.min_eq_left (by omega)]
  have hB : (L.toArray.toList.take (i * K + K) ++ D ++ L.toArray.toList.drop (i * K + K + D.length)).drop (i * K + K) = D ++ L.drop (i * K + K + D.length) := by
    rw [List.append_assoc, List.drop_append_of_le_length (by simp; omega), List.drop_eq_nil_of_le (by simp; omega), List.nil_append]
  rw [hA, hB, ← List.append_assoc, List.take_append_of_le_length (by simp; omega), List.take_of_length_le (by simp; omega)]

theorem insert_list2 (L x D : List Value) (i n K : Nat) (hx : x.length = K) (hL : (n + 1) * K ≤ L.length) (hD : D.length = (n - i) * K) (h2 : i * K + K + (n - i) * K = (n + 1) * K) :
    (put (put L.toArray (i * K) x) ((i + 1) * K) D).toList.take ((n + 1) * K) = L.take (i * K) ++ x ++ D := by
  have e : (i + 1) * K = i * K + K := by rw [Nat.add_mul, Nat.one_mul]
  have hl2 : (L.take (i * K)).length = i * K := by rw [List.length_take]; exact Nat.min_eq_left (by omega)
  rw [toList_put, toList_put, e, hx]
  have hA : (L.toArray.toList.take (i * K) ++ x ++ L.toArray.toList.drop (i * K + K)).take (i * K + K) = L.take (i * K) ++ x := by
    rw [List.take_append_of_le_length (by simp; omega), List.take_of_length_le (by simp; omega)]
  rw [hA, List.take_append_of_le_length (by simp; omega), List.take_of_length_le (by simp; omega)]

/-! ### A builtin whose run is known, for the walk -/
section
variable {o : Oper} {a : Act} {w w' : World} {K : Act → World → Prop} {Q : Exit → Act → World → Prop} {v v1 v2 : Value} {d s : Operand} {t t' : TypeId}

theorem wp_append (hr : (Builtin.append_ #[t, t'] o.type #[v1, v2]).run P w = .ok v w') (ho : o.op = .call { callee := .builtin .append, args := #[d, s], argTypes := #[t, t'] }) (hd : a.eval d = v1) (hs : a.eval s = v2)
    (h : K (a.put o.dst v) w') : o.wp P a w K Q := by
  unfold Oper.wp execOp
  simp only [ho, resolve, invoke, builtin, Sem.run_bind, Sem.run_pure, Result.andThen_ok, List.map_toArray, List.map_cons, List.map_nil, hd, hs, hr]
  exact h

theorem wp_copy (hr : (Builtin.copy_ #[t, t'] o.type #[v1, v2]).run P w = .ok v w') (ho : o.op = .call { callee := .builtin .copy, args := #[d, s], argTypes := #[t, t'] }) (hd : a.eval d = v1) (hs : a.eval s = v2)
    (h : K (a.put o.dst v) w') : o.wp P a w K Q := by
  unfold Oper.wp execOp
  simp only [ho, resolve, invoke, builtin, Sem.run_bind, Sem.run_pure, Result.andThen_ok, List.map_toArray, List.map_cons, List.map_nil, hd, hs, hr]
  exact h

theorem wp_clear (hr : (Builtin.clear_ #[t] o.type #[v1]).run P w = .ok v w') (ho : o.op = .call { callee := .builtin .clear, args := #[d], argTypes := #[t] }) (hd : a.eval d = v1)
    (h : K (a.put o.dst v) w') : o.wp P a w K Q := by
  unfold Oper.wp execOp
  simp only [ho, resolve, invoke, builtin, Sem.run_bind, Sem.run_pure, Result.andThen_ok, List.map_toArray, List.map_cons, List.map_nil, hd, hr]
  exact h

variable {ops : Array Oper} {rest : List Oper}
theorem list_append (hr : (Builtin.append_ #[t, t'] o.type #[v1, v2]).run P w = .ok v w') (hg : o.guard = none) (ho : o.op = .call { callee := .builtin .append, args := #[d, s], argTypes := #[t, t'] }) (hd : a.eval d = v1) (hs : a.eval s = v2)
    (h : wpList P ops Q rest (a.put o.dst v) w') : wpList P ops Q (o :: rest) a w :=
  wpList_plain hg fun _ hK => wp_append hr ho hd hs (hK _ _ h)
theorem list_copy (hr : (Builtin.copy_ #[t, t'] o.type #[v1, v2]).run P w = .ok v w') (hg : o.guard = none) (ho : o.op = .call { callee := .builtin .copy, args := #[d, s], argTypes := #[t, t'] }) (hd : a.eval d = v1) (hs : a.eval s = v2)
    (h : wpList P ops Q rest (a.put o.dst v) w') : wpList P ops Q (o :: rest) a w :=
  wpList_plain hg fun _ hK => wp_copy hr ho hd hs (hK _ _ h)
theorem list_clear (hr : (Builtin.clear_ #[t] o.type #[v1]).run P w = .ok v w') (hg : o.guard = none) (ho : o.op = .call { callee := .builtin .clear, args := #[d], argTypes := #[t] }) (hd : a.eval d = v1)
    (h : wpList P ops Q rest (a.put o.dst v) w') : wpList P ops Q (o :: rest) a w :=
  wpList_plain hg fun _ hK => wp_clear hr ho hd (hK _ _ h)
end

end Go.Proofs.Ytnokmbjgfglaoaa.Row
