/- A slice whose array may be longer than its capacity, appended to by one element: where the elements lie, and what else has turned. -/
import Derived.Test.YtgifckledbopmaaProg
import Derived.WalkKit
import Derived.Laws.AppendOwn
import Derived.Laws.OwnMore
import Derived.Deep.RegionLaw
import Derived.Maps.AppendAt
import Derived.Deep.AppendLies
import Derived.WalkSmall
import Derived.Lib.Hide
namespace Go.Proofs.Ytgifckledbopmaa
open Go.RowKit

/-- A slice of one-cell elements: nil, or the first cells of a block. -/
def RowAt (w : World) (e : TypeId) (v : Value) (L : List Value) : Prop :=
  (v = .slice none 0 0 ∧ L = []) ∨ ∃ r cap cur, v = .slice (some ⟨r, 0, none⟩) L.length cap ∧ w.heap[r]? = some (.cells cur e (0, 0)) ∧ L.length ≤ cap ∧ cap ≤ cur.size ∧ cap ≤ maxLen ∧ cur.toList.take L.length = L

theorem heap_lt {w : World} {g : Nat} {o : Obj} (h : w.heap[g]? = some o) : g < w.heap.size := by
  rcases Nat.lt_or_ge g w.heap.size with hl | hl
  · exact hl
  · rw [Array.getElem?_eq_none hl] at h; cases h

theorem RowAt.lt {w : World} {e : TypeId} {v : Value} {L : List Value} (h : RowAt w e v L) : ∀ k, v.ownBlock = some k → k < w.heap.size := by
  rcases h with ⟨rfl, _⟩ | ⟨r, cap, cur, rfl, hg, _⟩
  · intro k hk; cases hk
  · intro k hk
    have : r = k := by simpa [Value.ownBlock] using hk
    rw [← this]; exact heap_lt hg

theorem RowAt.keep {w w' : World} {e : TypeId} {v : Value} {L : List Value} (h : RowAt w e v L) (hk : ∀ k, v.ownBlock = some k → w'.heap[k]? = w.heap[k]?) : RowAt w' e v L := by
  rcases h with h | ⟨r, cap, cur, rfl, hg, h⟩
  · exact .inl h
  · exact .inr ⟨r, cap, cur, rfl, (hk r rfl).trans hg, h⟩

theorem RowAt.cell {w : World} {e : TypeId} {r cap : Nat} {n : Nat} {L : List Value} (h : RowAt w e (.slice (some ⟨r, 0, none⟩) n cap) L) (j : Nat) (u : Value) (hu : L[j]? = some u) : w.cell? ⟨r, j, none⟩ = some u := by
  rcases h with ⟨h, _⟩ | ⟨r', cap', cur, hv, hg, h1, h2, h3, h4⟩
  · cases h
  · injection hv with hv
    injection hv with hv
    injection hv with hv
    subst hv
    rw [cell_of_row w r j cur e (0, 0) hg]
    have hj : j < L.length := (List.getElem?_eq_some_iff.1 hu).1
    rw [← h4, List.getElem?_take, if_pos hj, Array.getElem?_toList] at hu
    exact hu

theorem RowAt.form {w : World} {e : TypeId} {v : Value} {L : List Value} (h : RowAt w e v L) : ∃ a cap, v = .slice a L.length cap ∧ L.length ≤ cap ∧ cap ≤ maxLen ∧ (0 < L.length → ∃ r, a = some ⟨r, 0, none⟩) := by
  rcases h with ⟨rfl, rfl⟩ | ⟨r, cap, cur, rfl, hg, h1, h2, h3, h4⟩
  · exact ⟨none, 0, rfl, Nat.le_refl _, by simp [maxLen], fun h => by simp at h⟩
  · exact ⟨_, cap, rfl, h1, h3, fun _ => ⟨r, rfl⟩⟩

section
variable {P : Program} (w : World)

/-- append of one element. -/
theorem run_append_row (t ty e : TypeId) (i : TypeInfo) (z : Value) (bytes : Nat) (ht : P.underlying t = some (.slice e)) (hi : P.info? e = some i) (hz : i.zero = some z)
    (hsize : i.size = 1) (hby : i.bytes = bytes) (hzs : z.cells.size = 1)
    (v : Value) (L : List Value) (hrow : RowAt w e v L) (a : Addr) (c : Nat) (x : Value) (hx : w.cell? (a.add 0) = some x) (h1 : x.oneCell' = true)
    (h63 : L.length + 1 ≤ maxLen) (hbytes : (L.length + 1) * bytes ≤ 140737488355328) :
    ∃ v' w', (Builtin.append_ #[t, t] ty #[v, .slice (some a) 1 c]).run P w = .ok v' w' ∧ RowAt w' e v' (L ++ [x]) ∧ w.grownBy w' v.ownBlock ∧ (v'.ownBlock = v.ownBlock ∨ v'.ownBlock = some w.heap.size) := by
  subst hby
  have hnews : ∀ j u, [x][j]? = some u → w.cell? (a.add j) = some u := by
    intro j u hj
    match j, hj with
    | 0, hj => simp at hj; subst hj; exact hx
  have hone : ∀ u ∈ [x], u.oneCell' = true := by intro u hu; simp at hu; subst hu; exact h1
  have hsmall : L.length + 1 ≤ 9223372036854775807 := by simp only [maxLen] at h63; omega
  have grown : ∀ (old : Nat), old < L.length + 1 → ∀ (row : Option Nat),
      RowAt (w.drew.alloc (.cells (L.toArray ++ [x].toArray ++ Builtin.zeroCells z.cells (grownCap w (L.length + 1) old e - (L.length + 1))) e)) e
        (.slice (some ⟨w.heap.size, 0, none⟩) (L.length + 1) (grownCap w (L.length + 1) old e)) (L ++ [x]) ∧
      w.grownBy (w.drew.alloc (.cells (L.toArray ++ [x].toArray ++ Builtin.zeroCells z.cells (grownCap w (L.length + 1) old e - (L.length + 1))) e)) row := by
    intro old ho row
    have hge := grownCap_ge w (L.length + 1) old e
    have hcm : grownCap w (L.length + 1) old e ≤ maxLen := grownCap_le_maxLen w (L.length + 1) old e h63
    refine ⟨.inr ⟨w.heap.size, _, _, by simp, heap_alloc_new w.drew _, by simpa using hge, ?_, hcm, ?_⟩, ⟨rfl, rfl, rfl, by simp, fun k hk _ => heap_alloc_old w.drew _ hk⟩⟩
    · simp only [Array.size_append, List.size_toArray, size_zeroCells, hzs, List.length_singleton]
      omega
    · simp only [Array.toList_append]
      exact List.take_left
  rcases hrow with ⟨rfl, rfl⟩ | ⟨g, cap, cur, rfl, hg, hnc, hcs, hcm, htake⟩
  · have hr := run_append_nil (P := P) w t ty e i z ht hi hz a 1 c [x] (by simp [hsize]) hnews (by omega) (by omega) (by have hb := hbytes; simp only [List.length_nil, Nat.zero_add] at hb; omega)
    have hgr := grown 0 (by simp) (Value.ownBlock (.slice none 0 0))
    simp only [List.length_nil, Nat.zero_add, List.nil_append, Array.empty_append] at hgr ⊢
    exact ⟨_, _, hr, hgr.1, hgr.2, .inr rfl⟩
  · by_cases hroom : L.length + 1 ≤ cap
    · have hfit : L.length * i.size + [x].length ≤ cur.size := by rw [hsize]; simp; omega
      have hr := run_append_room (P := P) w t ty e i ht hi g L.length cap cur hg a 1 c [x] (by simp [hsize]) hnews hone hroom hfit
      refine ⟨_, _, hr, .inr ⟨g, cap, _, by simp, setRow_heap w g cur _ e _ hg, by simpa using hroom, ?_, hcm, ?_⟩, ⟨rfl, rfl, rfl, by simp, fun k _ hk => setRow_other w g k _ (fun e => hk (by simp [Value.ownBlock, e]))⟩, .inl rfl⟩
      · rw [hsize] at hfit ⊢
        simp only [List.size_toArray, List.length_append, List.length_take, List.length_drop, Array.length_toList, List.length_singleton, Nat.mul_one] at hfit ⊢
        omega
      · rw [hsize, Nat.mul_one, htake]
        exact List.take_left
    · have holds : ∀ j u, L[j]? = some u → w.cell? ((⟨g, 0, none⟩ : Addr).add j) = some u := by
        intro j u hu
        rw [Addr.add_lit, Nat.zero_add, cell_of_row w g j cur e (0, 0) hg]
        have hj : j < L.length := (List.getElem?_eq_some_iff.1 hu).1
        rw [← htake, List.getElem?_take, if_pos hj, Array.getElem?_toList] at hu
        exact hu
      have hr := run_append_grow (P := P) w t ty e i z ht hi hz ⟨g, 0, none⟩ L.length cap L (by simp [hsize]) holds a 1 c [x] (by simp [hsize]) hnews (by omega) (by omega) (growslice_fits (by omega) hbytes)
      have hgr := grown cap (by omega) (Value.ownBlock (.slice (some ⟨g, 0, none⟩) L.length cap))
      exact ⟨_, _, hr, hgr.1, hgr.2, .inr rfl⟩

theorem wp_append_row {o : Oper} {a : Act} {K : Act → World → Prop} {Q : Exit → Act → World → Prop} (s x : Operand) (t : TypeId)
    (ho : o.op = .call { callee := .builtin .append, args := #[s, x], argTypes := #[t, t] })
    (e : TypeId) (i : TypeInfo) (z : Value) (bytes : Nat) (ht : P.underlying t = some (.slice e)) (hi : P.info? e = some i) (hz : i.zero = some z)
    (hsize : i.size = 1) (hby : i.bytes = bytes) (hzs : z.cells.size = 1)
    (v : Value) (L : List Value) (hs : a.eval s = v) (hrow : RowAt w e v L) (ad : Addr) (c : Nat) (y : Value) (hx : a.eval x = .slice (some ad) 1 c) (hy : w.cell? (ad.add 0) = some y) (h1 : y.oneCell' = true)
    (h63 : L.length + 1 ≤ maxLen) (hbytes : (L.length + 1) * bytes ≤ 140737488355328)
    (h : ∀ r' cap' w', RowAt w' e (.slice (some ⟨r', 0, none⟩) (L.length + 1) cap') (L ++ [y]) → w.grownBy w' v.ownBlock → (v.ownBlock = some r' ∨ r' = w.heap.size) → K (a.put o.dst (.slice (some ⟨r', 0, none⟩) (L.length + 1) cap')) w') : o.wp P a w K Q := by
  obtain ⟨v', w', hr, h2, h3, h4⟩ := run_append_row (P := P) w t o.type e i z bytes ht hi hz hsize hby hzs v L hrow ad c y hy h1 h63 hbytes
  unfold Oper.wp execOp
  simp only [ho, resolve, invoke, builtin, Sem.run_bind, Sem.run_pure, Result.andThen_ok, List.map_toArray, List.map_cons, List.map_nil, hs, hx, hr]
  obtain ⟨a', cap', hv, _, _, hr'⟩ := h2.form
  obtain ⟨r', rfl⟩ := hr' (by simp)
  have hlen : (L ++ [y]).length = L.length + 1 := by simp
  rw [hlen] at hv
  subst hv
  refine h r' cap' w' h2 h3 ?_
  rcases h4 with h4 | h4
  · exact .inl h4.symm
  · exact .inr (by simpa [Value.ownBlock] using h4)

theorem wpList_append_row {ops : Array Oper} {rest : List Oper} {o : Oper} {a : Act} {Q : Exit → Act → World → Prop} (hgd : o.guard = none) (s x : Operand) (t : TypeId)
    (ho : o.op = .call { callee := .builtin .append, args := #[s, x], argTypes := #[t, t] })
    (e : TypeId) (i : TypeInfo) (z : Value) (bytes : Nat) (ht : P.underlying t = some (.slice e)) (hi : P.info? e = some i) (hz : i.zero = some z)
    (hsize : i.size = 1) (hby : i.bytes = bytes) (hzs : z.cells.size = 1)
    (v : Value) (L : List Value) (hs : a.eval s = v) (hrow : RowAt w e v L) (ad : Addr) (c : Nat) (y : Value) (hx : a.eval x = .slice (some ad) 1 c) (hy : w.cell? (ad.add 0) = some y) (h1 : y.oneCell' = true)
    (h63 : L.length + 1 ≤ maxLen) (hbytes : (L.length + 1) * bytes ≤ 140737488355328)
    (h : ∀ r' cap' w', RowAt w' e (.slice (some ⟨r', 0, none⟩) (L.length + 1) cap') (L ++ [y]) → w.grownBy w' v.ownBlock → (v.ownBlock = some r' ∨ r' = w.heap.size) → wpList P ops Q rest (a.put o.dst (.slice (some ⟨r', 0, none⟩) (L.length + 1) cap')) w') : wpList P ops Q (o :: rest) a w :=
  wpList_plain hgd fun _ hK => wp_append_row w s x t ho e i z bytes ht hi hz hsize hby hzs v L hs hrow ad c y hx hy h1 h63 hbytes fun r' c' w' h2 h3 h4 => hK _ _ (h r' c' w' h2 h3 h4)

theorem step_append_row {ops : Array Oper} {o : Oper} {a : Act} {K : Act → World → Prop} {Q : Exit → Act → World → Prop} {E : Prop} (hgd : o.guard = none) (s x : Operand) (t : TypeId)
    (ho : o.op = .call { callee := .builtin .append, args := #[s, x], argTypes := #[t, t] })
    (e : TypeId) (i : TypeInfo) (z : Value) (bytes : Nat) (ht : P.underlying t = some (.slice e)) (hi : P.info? e = some i) (hz : i.zero = some z)
    (hsize : i.size = 1) (hby : i.bytes = bytes) (hzs : z.cells.size = 1)
    (v : Value) (L : List Value) (hs : a.eval s = v) (hrow : RowAt w e v L) (ad : Addr) (c : Nat) (y : Value) (hx : a.eval x = .slice (some ad) 1 c) (hy : w.cell? (ad.add 0) = some y) (h1 : y.oneCell' = true)
    (h63 : L.length + 1 ≤ maxLen) (hbytes : (L.length + 1) * bytes ≤ 140737488355328)
    (h : ∀ r' cap' w', RowAt w' e (.slice (some ⟨r', 0, none⟩) (L.length + 1) cap') (L ++ [y]) → w.grownBy w' v.ownBlock → (v.ownBlock = some r' ∨ r' = w.heap.size) → K (a.put o.dst (.slice (some ⟨r', 0, none⟩) (L.length + 1) cap')) w') :
    if Region.wanted o (yielded ops a.tmps) = true then Oper.wp P o a w K Q else E := by
  have hw : Region.wanted o (yielded ops a.tmps) = true := by simp [Region.wanted, hgd]
  rw [if_pos hw]
  exact wp_append_row w s x t ho e i z bytes ht hi hz hsize hby hzs v L hs hrow ad c y hx hy h1 h63 hbytes h
end
end Go.Proofs.Ytgifckledbopmaa
