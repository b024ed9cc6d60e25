/- The plain law: an hour more at the end; more free hours; append of stretches as a step of a region that draws. -/
import Derived.Test.YtpflojfdlmdmfaaPlainS
import Derived.Test.YtpflojfdlmdmfaaMoney
import Derived.Test.YtpflojfdlmdmfaaRow
namespace Go.Proofs.Ytpflojfdlmdmfaa
open Go.RowKit

theorem listN_at (ss : Nat → St) (n j : Nat) (h : j < n) : (listN ss n).getD j ⟨0, 0, 0⟩ = ss j := by
  induction n with
  | zero => omega
  | succ n ih =>
    show (listN ss n ++ [ss n]).getD j _ = _
    have hl := listN_length ss n
    by_cases hj : j < n
    · rw [List.getD_eq_getElem?_getD, List.getElem?_append_left (by omega), ← List.getD_eq_getElem?_getD, ih hj]
    · obtain rfl : j = n := by omega
      rw [List.getD_eq_getElem?_getD, List.getElem?_append_right (by omega), hl, Nat.sub_self]; rfl
theorem sts_reads {w : World} {A : Option Addr} {n : Nat} (c : Nat) {ss : Nat → St} (h : Sts w A n ss) (h0 : 0 < n) : Reads w (.slice A n c) (listN ss n) := by
  obtain ⟨b, o, rfl, _⟩ := h 0 h0
  have hl := listN_length ss n
  refine .inr ⟨⟨b, o, none⟩, c, by rw [hl], fun j u hu => ?_⟩
  have hj : j < n * 3 := by rw [← hl, ← stC_length]; exact (List.getElem?_eq_some_iff.1 hu).1
  obtain ⟨q0, q1, q2⟩ := stC_get (listN ss n) (j / 3) (by omega)
  rw [listN_at ss n (j / 3) (by omega)] at q0 q1 q2
  obtain ⟨b', o', hA, _, r0, r1, r2, _⟩ := h (j / 3) (by omega)
  injection hA with hA
  injection hA with h1 h2
  subst h1; subst h2
  rw [Addr.add_lit]
  have : j = j / 3 * 3 ∨ j = j / 3 * 3 + 1 ∨ j = j / 3 * 3 + 2 := by omega
  rcases this with e | e | e
  · rw [e] at hu ⊢; rw [q0] at hu; rw [r0]; exact hu
  · rw [e] at hu ⊢; rw [q1] at hu; rw [← Nat.add_assoc, r1]; exact hu
  · rw [e] at hu ⊢; rw [q2] at hu; rw [← Nat.add_assoc, r2]; exact hu

theorem Reads.below {w w' : World} {v : Value} {l : List St} (h : Reads w v l) (hb : Below w.heap.size w w') : Reads w' v l := by
  rcases h with h | ⟨a, c, rfl, hc⟩
  · exact .inl h
  · refine .inr ⟨a, c, rfl, fun j u hu => ?_⟩
    have h1 := hc j u hu
    exact (hb.cell (p := a.add j) (World.block_lt_of_cell? w _ h1)).trans h1
theorem more_right {ss : Nat → St} {n : Nat} (h : ∀ j, j < n → wrongE ss j = 0) (hn : n ≤ 30) (x : St) (hx : okS x) (he : x.f = endN ss n) : ∀ j, j < (listN ss n ++ [x]).length → wrongE (fun j => (listN ss n ++ [x]).getD j ⟨0, 0, 0⟩) j = 0 := by
  have hl := listN_length ss n
  exact path_right (path_append.2 ⟨_, path_listN h n (Nat.le_refl _), he, hx, rfl⟩) (by rw [List.length_append, List.length_singleton]; omega)
theorem more_used (F : Int) (ss : Nat → St) (n : Nat) (x : St) : (runN F (fun j => (listN ss n ++ [x]).getD j ⟨0, 0, 0⟩) (listN ss n ++ [x]).length).1 = takeU F (runN F ss n).1 x := by
  rw [runN_list, runL_append, ← runN_listN]; rfl
theorem Sts.bnd'' {w : World} {A : Option Addr} {n : Nat} {ss : Nat → St} (h : Sts w A n ss) : ∀ j, j < n → i64b (ss j).f ∧ i64b (ss j).t ∧ i64b (ss j).h := fun j hj => by
  obtain ⟨_, _, _, _, _, _, _, h⟩ := h j hj
  exact h
theorem list_bnd {ss : Nat → St} {n : Nat} (h : ∀ j, j < n → i64b (ss j).f ∧ i64b (ss j).t ∧ i64b (ss j).h) : ∀ x ∈ listN ss n, i64b x.f ∧ i64b x.t ∧ i64b x.h := by
  induction n with
  | zero => intro x hx; cases hx
  | succ n ih =>
    intro x hx
    rcases List.mem_append.1 hx with hx | hx
    · exact ih (fun j hj => h j (by omega)) x hx
    · simp at hx; subst hx; exact h n (by omega)

theorem wide_used {F F' : Int} (hF : F ≤ F') {ss : Nat → St} {n : Nat} (h : ∀ j, j < n → wrongE ss j = 0) : (runN F' ss n).1 ≤ (runN F ss n).1 := by
  rw [runN_use h, runN_use h]
  exact useN_anti hF _ h
/-- With more free hours it expires no earlier. -/
theorem wide_out {F F' : Int} (hF : F ≤ F') {ss : Nat → St} {n : Nat} (h : ∀ j, j < n → wrongE ss j = 0) (h0 : 0 < n) (ho : ¬ (runN F' ss n).2 < 0) : ¬ (runN F ss n).2 < 0 ∧ (runN F ss n).2 ≤ (runN F' ss n).2 := by
  have a := runN_out (F := F) h n (Nat.le_refl _)
  have b := runN_out (F := F') h n (Nat.le_refl _)
  rcases b with ⟨b1, _⟩ | ⟨b1, b2, b3, b4, b5, b6⟩
  · exact absurd b1 ho
  · have hge := useN_anti hF (runN F' ss n).2 h
    rcases a with ⟨a1, a2⟩ | ⟨a1, a2, a3, a4, a5, a6⟩
    · have hall := useN_all F h n (Nat.le_refl _) (Int.le_refl _) h0
      have := useN_mono F b3 h
      omega
    · refine ⟨by omega, ?_⟩
      rcases Int.lt_or_le (runN F' ss n).2 (runN F ss n).2 with hlt | hle
      · have := a5 _ b2 hlt; omega
      · exact hle

theorem at_top_d {w : World} {o : Obj} {g : Nat} (h : g = w.heap.size) : ((w.alloc o).drew).heap[g]? = some o := by
  subst h; exact heap_alloc_new w o
theorem up_d {w : World} {o o' : Obj} {g : Nat} (h : w.heap[g]? = some o') : ((w.alloc o).drew).heap[g]? = some o' := (Below.heap_alloc _ _ _ (heap_lt h)).trans h
theorem up_c {w : World} {o o' : Obj} {g : Nat} (h : w.heap[g]? = some o') : (w.alloc o).heap[g]? = some o' := (Below.heap_alloc _ _ _ (heap_lt h)).trans h
section
variable (w : World)
theorem step_append_st {ops : Array Oper} {o : Oper} {a : Act} {K : Act → World → Prop} {Q : Exit → Act → World → Prop} {E : Prop} (hgd : o.guard = none) (s x : Operand)
    (ho : o.op = .call { callee := .builtin .append, args := #[s, x], argTypes := #[26, 26] })
    (v : Value) (l : List St) (hs : a.eval s = v) (hrow : RowS w v l) (sv : Value) (ns : List St) (hx : a.eval x = sv) (hr : Reads w sv ns) (h63 : l.length + ns.length ≤ 4294967296)
    (h : ∀ A' c' w', RowS w' (.slice A' (l ++ ns).length c') (l ++ ns) → w.grownBy w' v.ownBlock → ((Value.slice A' (l ++ ns).length c').ownBlock = v.ownBlock ∨ (Value.slice A' (l ++ ns).length c').ownBlock = some w.heap.size) → K (a.put o.dst (.slice A' (l ++ ns).length c')) w') :
    if Region.wanted o (yielded ops a.tmps) = true then Oper.wp Try.prog o a w K Q else E := by
  have hw : Region.wanted o (yielded ops a.tmps) = true := by simp [Region.wanted, hgd]
  rw [if_pos hw]
  exact wp_append_st w s x ho v l hs hrow sv ns hx hr h63 h
end
end Go.Proofs.Ytpflojfdlmdmfaa
