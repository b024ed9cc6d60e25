/- A slice of stretches of the call's own, appended to: where the stretches lie, and what else has turned. -/
import Derived.Test.YtpflojfdlmdmfaaClock
import Derived.Laws.AppendOwn
import Derived.Laws.OwnMore
import Derived.Deep.RegionLaw
import Derived.Maps.AppendAt
import Derived.Deep.AppendLies
namespace Go.Proofs.Ytpflojfdlmdmfaa
open Go.RowKit

/-- The cells of stretches. -/
def stC : List St → List Value
  | [] => []
  | x :: l => .int .i64 x.f :: .int .i64 x.t :: .int .i64 x.h :: stC l
theorem stC_length (l : List St) : (stC l).length = l.length * 3 := by
  induction l with
  | nil => rfl
  | cons x l ih => simp only [stC, List.length_cons, ih]; omega
theorem stC_append (l m : List St) : stC (l ++ m) = stC l ++ stC m := by
  induction l with
  | nil => rfl
  | cons x l ih => simp only [stC, List.cons_append, ih]
theorem stC_one (l : List St) : ∀ u ∈ stC l, u.oneCell' = true := by
  induction l with
  | nil => intro u hu; cases hu
  | cons x l ih =>
    intro u hu
    simp only [stC, List.mem_cons] at hu
    rcases hu with rfl | rfl | rfl | hu
    · rfl
    · rfl
    · rfl
    · exact ih u hu
theorem stC_get (l : List St) (j : Nat) (h : j < l.length) : (stC l)[j * 3]? = some (.int .i64 (l.getD j ⟨0, 0, 0⟩).f) ∧ (stC l)[j * 3 + 1]? = some (.int .i64 (l.getD j ⟨0, 0, 0⟩).t) ∧ (stC l)[j * 3 + 2]? = some (.int .i64 (l.getD j ⟨0, 0, 0⟩).h) := by
  induction l generalizing j with
  | nil => simp at h
  | cons x l ih =>
    cases j with
    | zero => simp [stC]
    | succ j =>
      have := ih j (by simpa using h)
      rw [show (j + 1) * 3 = j * 3 + 3 by omega]
      simpa [stC] using this

/-- A slice of stretches: nil, or the first cells of a block. -/
def RowS (w : World) (v : Value) (l : List St) : Prop :=
  (v = .slice none 0 0 ∧ l = []) ∨ ∃ r cap cur, v = .slice (some ⟨r, 0, none⟩) l.length cap ∧ w.heap[r]? = some (.cells cur 28 (0, 0)) ∧ l.length ≤ cap ∧ cap * 3 ≤ cur.size ∧ cap ≤ maxLen ∧ cur.toList.take (l.length * 3) = stC l

theorem RowS.lt {w : World} {v : Value} {l : List St} (h : RowS w v l) : ∀ k, v.ownBlock = some k → k < w.heap.size := by
  rcases h with ⟨rfl, _⟩ | ⟨r, cap, cur, rfl, hg, _⟩
  · intro k hk; cases hk
  · intro k hk
    have : r = k := by simpa [Value.ownBlock] using hk
    rw [← this]; exact heap_lt hg
theorem RowS.keep {w w' : World} {v : Value} {l : List St} (h : RowS w v l) (hk : ∀ k, v.ownBlock = some k → w'.heap[k]? = w.heap[k]?) : RowS w' v l := by
  rcases h with h | ⟨r, cap, cur, rfl, hg, h⟩
  · exact .inl h
  · exact .inr ⟨r, cap, cur, rfl, (hk r rfl).trans hg, h⟩
theorem RowS.below {w w' : World} {v : Value} {l : List St} (h : RowS w v l) (hb : Below w.heap.size w w') : RowS w' v l := h.keep fun k hk => hb.block k (h.lt k hk)
theorem RowS.grown {w w' : World} {v : Value} {l : List St} {row : Option Nat} (h : RowS w v l) (hg : w.grownBy w' row) (hne : v.ownBlock = none ∨ v.ownBlock ≠ row) : RowS w' v l := h.keep fun k hk => hg.block k (h.lt k hk) (by
  intro he
  rcases hne with hne | hne
  · rw [hne] at hk; cases hk
  · exact hne (hk.trans he))

/-- The stretches of a slice that can be read. -/
def Reads (w : World) (v : Value) (l : List St) : Prop := (v = .slice none 0 0 ∧ l = []) ∨ ∃ a c, v = .slice (some a) l.length c ∧ ∀ j u, (stC l)[j]? = some u → w.cell? (a.add j) = some u
theorem RowS.reads {w : World} {v : Value} {l : List St} (h : RowS w v l) : Reads w v l := by
  rcases h with h | ⟨r, cap, cur, rfl, hg, h1, h2, h3, h4⟩
  · exact .inl h
  · refine .inr ⟨⟨r, 0, none⟩, cap, rfl, fun j u hu => ?_⟩
    rw [Addr.add_lit, Nat.zero_add, cell_of_row w r j cur 28 (0, 0) hg]
    have hj : j < l.length * 3 := by rw [← stC_length]; exact (List.getElem?_eq_some_iff.1 hu).1
    rw [← h4, List.getElem?_take, if_pos hj, Array.getElem?_toList] at hu
    exact hu
theorem Reads.form {w : World} {v : Value} {l : List St} (h : Reads w v l) : ∃ A c, v = .slice A l.length c := by
  rcases h with ⟨rfl, rfl⟩ | ⟨a, c, rfl, _⟩
  · exact ⟨none, 0, rfl⟩
  · exact ⟨some a, c, rfl⟩
theorem RowS.sts {w : World} {A : Option Addr} {n c : Nat} {l : List St} (h : RowS w (.slice A n c) l) (hi : ∀ x ∈ l, i64b x.f ∧ i64b x.t ∧ i64b x.h) : n = l.length ∧ n ≤ maxLen ∧ Sts w A n (fun j => l.getD j ⟨0, 0, 0⟩) := by
  rcases h with ⟨h, rfl⟩ | ⟨r, cap, cur, hv, hg, h1, h2, h3, h4⟩
  · injection h with _ h2 _
    subst h2
    exact ⟨rfl, by simp [maxLen], fun j hj => by omega⟩
  · injection hv with e1 e2 e3
    subst e1; subst e2; subst e3
    refine ⟨rfl, by omega, fun j hj => ?_⟩
    obtain ⟨q0, q1, q2⟩ := stC_get l j hj
    have hc : ∀ i u, i < l.length * 3 → (stC l)[i]? = some u → w.cell? ⟨r, i, none⟩ = some u := fun i u hi hu => by
      rw [cell_of_row w r i cur 28 (0, 0) hg]
      rw [← h4, List.getElem?_take, if_pos hi, Array.getElem?_toList] at hu
      exact hu
    have hm := hi (l.getD j ⟨0, 0, 0⟩) (by rw [List.getD_eq_getElem?_getD, List.getElem?_eq_getElem hj]; exact List.getElem_mem hj)
    refine ⟨r, 0, rfl, heap_lt hg, ?_, ?_, ?_, hm⟩
    · rw [Nat.zero_add]; exact hc _ _ (by omega) q0
    · rw [Nat.zero_add]; exact hc _ _ (by omega) q1
    · rw [Nat.zero_add]; exact hc _ _ (by omega) q2

theorem info28 : (Try.prog.info? 28).map (fun i => (i.zero, i.size, i.bytes)) = some (some (.agg #[.int .i64 0, .int .i64 0, .int .i64 0]), 3, 24) := by kernel_rfl

section
variable (w : World)
/-- append of stretches. -/
theorem run_append_st (ty : TypeId) (v : Value) (l : List St) (hrow : RowS w v l) (sv : Value) (ns : List St) (hr : Reads w sv ns) (h63 : l.length + ns.length ≤ 4294967296) :
    ∃ v' w', (Builtin.append_ #[26, 26] ty #[v, sv]).run Try.prog w = .ok v' w' ∧ RowS w' v' (l ++ ns) ∧ w.grownBy w' v.ownBlock ∧ (v'.ownBlock = v.ownBlock ∨ v'.ownBlock = some w.heap.size) := by
  obtain ⟨i, hi, hz, hsz, hby⟩ := info_parts info28
  have ht := Try.underlying26
  have hln := stC_length ns
  have hll := stC_length l
  have hmx : l.length + ns.length ≤ maxLen := by simp only [maxLen]; omega
  have hzs : (Value.agg #[.int .i64 0, .int .i64 0, .int .i64 0]).cells.size = 3 := rfl
  have grown : ∀ (old : Nat) (row : Option Nat), 
      RowS (w.drew.alloc (.cells ((stC l).toArray ++ (stC ns).toArray ++ Builtin.zeroCells (Value.agg #[.int .i64 0, .int .i64 0, .int .i64 0]).cells (grownCap w (l.length + ns.length) old 28 - (l.length + ns.length))) 28))
        (.slice (some ⟨w.heap.size, 0, none⟩) (l.length + ns.length) (grownCap w (l.length + ns.length) old 28)) (l ++ ns) ∧
      w.grownBy (w.drew.alloc (.cells ((stC l).toArray ++ (stC ns).toArray ++ Builtin.zeroCells (Value.agg #[.int .i64 0, .int .i64 0, .int .i64 0]).cells (grownCap w (l.length + ns.length) old 28 - (l.length + ns.length))) 28)) row := by
    intro old row
    have hge := grownCap_ge w (l.length + ns.length) old 28
    have hcm := grownCap_le_maxLen w (l.length + ns.length) old 28 hmx
    refine ⟨.inr ⟨w.heap.size, _, _, by simp, heap_alloc_new w.drew _, by simpa using hge, ?_, hcm, ?_⟩, ⟨rfl, rfl, rfl, by simp, fun k hk _ => heap_alloc_old w.drew _ hk⟩⟩
    · simp only [Array.size_append, List.size_toArray, size_zeroCells, hzs, hll, hln]
      omega
    · simp only [Array.toList_append]
      rw [List.length_append, Nat.add_mul, ← hll, ← hln, ← List.length_append, stC_append]
      exact List.take_left
  rcases hrow with ⟨rfl, rfl⟩ | ⟨g, cap, cur, rfl, hg, hnc, hcs, hcm, htake⟩
  · rcases hr with ⟨rfl, rfl⟩ | ⟨a, c, rfl, hc⟩
    · refine ⟨.slice none 0 0, w, ?_, .inl ⟨rfl, rfl⟩, ⟨rfl, rfl, rfl, Nat.le_refl _, fun _ _ _ => rfl⟩, .inl rfl⟩
      simp [Builtin.append_, run_underlying ht, sizeOf, typeInfo, hi, Builtin.lenOf, Builtin.firstCells]
    · by_cases h0 : ns.length = 0
      · have hn : ns = [] := List.length_eq_zero_iff.1 h0
        subst hn
        refine ⟨.slice none 0 0, w, ?_, .inl ⟨rfl, rfl⟩, ⟨rfl, rfl, rfl, Nat.le_refl _, fun _ _ _ => rfl⟩, .inl rfl⟩
        simp [Builtin.append_, run_underlying ht, sizeOf, typeInfo, hi, Builtin.lenOf, Builtin.firstCells, loadCells, loadCellsFrom]
      · have hrun := run_append_nil (P := Try.prog) w 26 ty 28 i _ ht hi hz a ns.length c (stC ns) (by rw [hsz]; exact hln) hc (by omega) (by simp only [List.length_nil] at h63; omega) (by rw [hby]; simp only [List.length_nil] at h63; omega)
        have hgr := grown 0 (Value.ownBlock (.slice none 0 0))
        simp only [List.length_nil, Nat.zero_add, List.nil_append, stC, Array.empty_append] at hgr
        exact ⟨_, _, hrun, hgr.1, hgr.2, .inr rfl⟩
  · rcases hr with ⟨rfl, rfl⟩ | ⟨a, c, rfl, hc⟩
    · refine ⟨_, w, ?_, .inr ⟨g, cap, cur, by simp, hg, by simpa using hnc, hcs, hcm, by simpa using htake⟩, ⟨rfl, rfl, rfl, Nat.le_refl _, fun _ _ _ => rfl⟩, .inl rfl⟩
      simp [Builtin.append_, run_underlying ht, sizeOf, typeInfo, hi, Builtin.lenOf, Builtin.firstCells, storeCells, hnc]
    · by_cases hroom : l.length + ns.length ≤ cap
      · have hfit : l.length * i.size + (stC ns).length ≤ cur.size := by rw [hsz, hln]; omega
        have hrun := run_append_room (P := Try.prog) w 26 ty 28 i ht hi g l.length cap cur hg a ns.length c (stC ns) (by rw [hsz]; exact hln) hc (stC_one ns) hroom hfit
        refine ⟨_, _, hrun, .inr ⟨g, cap, _, by simp, setRow_heap w g cur _ 28 _ hg, by simpa using hroom, ?_, hcm, ?_⟩, ⟨rfl, rfl, rfl, by simp, fun k _ hk => setRow_other w g k _ (fun e => hk (by simp [Value.ownBlock, e]))⟩, .inl rfl⟩
        · rw [hsz, hln] at hfit
          simp only [List.size_toArray, List.length_append, List.length_take, List.length_drop, Array.length_toList, hsz, hln] at hfit ⊢
          omega
        · rw [hsz, htake, List.length_append, Nat.add_mul, ← hll, ← hln, ← List.length_append, stC_append]
          exact List.take_left
      · have holds : ∀ j u, (stC l)[j]? = some u → w.cell? ((⟨g, 0, none⟩ : Addr).add j) = some u := by
          intro j u hu
          rw [Addr.add_lit, Nat.zero_add, cell_of_row w g j cur 28 (0, 0) hg]
          have hj : j < l.length * 3 := by rw [← hll]; exact (List.getElem?_eq_some_iff.1 hu).1
          rw [← htake, List.getElem?_take, if_pos hj, Array.getElem?_toList] at hu
          exact hu
        have hrun := run_append_grow (P := Try.prog) w 26 ty 28 i _ ht hi hz ⟨g, 0, none⟩ l.length cap (stC l) (by rw [hsz]; exact hll) holds a ns.length c (stC ns) (by rw [hsz]; exact hln) hc (by omega) (by omega) (growslice_fits (by omega) (by rw [hby]; omega))
        have hgr := grown cap (Value.ownBlock (.slice (some ⟨g, 0, none⟩) l.length cap))
        exact ⟨_, _, hrun, hgr.1, hgr.2, .inr rfl⟩

theorem wp_append_st {o : Oper} {a : Act} {K : Act → World → Prop} {Q : Exit → Act → World → Prop} (s x : Operand)
    (ho : o.op = .call { callee := .builtin .append, args := #[s, x], argTypes := #[26, 26] })
    (v : Value) (l : List St) (hs : a.eval s = v) (hrow : RowS w v l) (sv : Value) (ns : List St) (hx : a.eval x = sv) (hr : Reads w sv ns) (h63 : l.length + ns.length ≤ 4294967296)
    (h : ∀ A' c' w', RowS w' (.slice A' (l ++ ns).length c') (l ++ ns) → w.grownBy w' v.ownBlock → ((Value.slice A' (l ++ ns).length c').ownBlock = v.ownBlock ∨ (Value.slice A' (l ++ ns).length c').ownBlock = some w.heap.size) → K (a.put o.dst (.slice A' (l ++ ns).length c')) w') : o.wp Try.prog a w K Q := by
  obtain ⟨v', w', hrun, h2, h3, h4⟩ := run_append_st w o.type v l hrow sv ns hr h63
  unfold Oper.wp execOp
  simp only [ho, resolve, invoke, builtin, Sem.run_bind, Sem.run_pure, Result.andThen_ok, List.map_toArray, List.map_cons, List.map_nil, hs, hx, hrun]
  obtain ⟨A', c', rfl⟩ := h2.reads.form
  exact h A' c' w' h2 h3 h4

theorem wpList_append_st {ops : Array Oper} {rest : List Oper} {o : Oper} {a : Act} {Q : Exit → Act → World → Prop} (hgd : o.guard = none) (s x : Operand)
    (ho : o.op = .call { callee := .builtin .append, args := #[s, x], argTypes := #[26, 26] })
    (v : Value) (l : List St) (hs : a.eval s = v) (hrow : RowS w v l) (sv : Value) (ns : List St) (hx : a.eval x = sv) (hr : Reads w sv ns) (h63 : l.length + ns.length ≤ 4294967296)
    (h : ∀ A' c' w', RowS w' (.slice A' (l ++ ns).length c') (l ++ ns) → w.grownBy w' v.ownBlock → ((Value.slice A' (l ++ ns).length c').ownBlock = v.ownBlock ∨ (Value.slice A' (l ++ ns).length c').ownBlock = some w.heap.size) → wpList Try.prog ops Q rest (a.put o.dst (.slice A' (l ++ ns).length c')) w') : wpList Try.prog ops Q (o :: rest) a w :=
  wpList_plain hgd fun _ hK => wp_append_st w s x ho v l hs hrow sv ns hx hr h63 fun A' c' w' h2 h3 h4 => hK _ _ (h A' c' w' h2 h3 h4)
end
end Go.Proofs.Ytpflojfdlmdmfaa
