/- What the readings of the arguments give the walks: the cells of slices of bools, strings, ints. -/
import Derived.Test.YtgifckledbopmaaFuse
import Derived.ProofKit
import Derived.SliceStrings
namespace Go.Proofs.Ytgifckledbopmaa
open Go.ChangeShapes Go.WideShapes Go.ChangeAt Go.WideMaps Go.WideElems Go.RowKit

section
variable {H : Type} {enc : TypeId × Value → H} {W : World}
theorem cell_plain {a : Addr} {v : Value} (h : W.cell? (a.add 0) = some v) : ∃ b o, a = ⟨b, o, none⟩ ∧ b < W.heap.size := by
  obtain ⟨b, o, spot⟩ := a
  have hspot : spot = none := by simpa [Addr.add] using World.cell?_spot h
  subst hspot
  refine ⟨b, o, rfl, ?_⟩
  have := World.block_lt_of_cell? W _ h
  simpa [Addr.add] using this

/-- A slice of one-cell elements: each cell with its reading. -/
theorem arg_row {t e : TypeId} {A : Option Addr} {n c : Nat} {d : DataW H} {p : List MemPlace} (ht : Try.prog.underlying t = some (.slice e)) (hc : Try.prog.cellsOf e = 1)
    (hone : ∀ fuel cs x, DataW.trod enc Try.prog W 0 (fun _ => true) true fuel e cs = some x → ∃ v, cs = [v])
    (h : DataW.Trod enc Try.prog W 0 (fun _ => true) true t (.slice A n c) d p) :
    n ≤ maxLen ∧ ∀ j, j < n → ∃ b o v fuel x, A = some ⟨b, o, none⟩ ∧ b < W.heap.size ∧ W.cell? ⟨b, o + j, none⟩ = some v ∧ DataW.trod enc Try.prog W 0 (fun _ => true) true fuel e [v] = some x := by
  obtain ⟨fuel, hf⟩ := h
  rcases DataW.trod_slice ht hf with ⟨hcs, hx⟩ | ⟨a, len, cap, elems, rest, m, _, hcs, hx, _, hl, hm, hlen, hel, _, _⟩
  · simp [Value.cells] at hcs
    obtain ⟨rfl, rfl, rfl⟩ := hcs
    exact ⟨by simp [maxLen], fun j hj => by omega⟩
  · simp [Value.cells] at hcs
    obtain ⟨rfl, rfl, rfl⟩ := hcs
    refine ⟨by omega, fun j hj => ?_⟩
    have get : ∀ i, i < n → ∃ v x, W.cell? (a.add i) = some v ∧ DataW.trod enc Try.prog W 0 (fun _ => true) true m e [v] = some x := by
      intro i hi
      have hE := hel i hi
      rw [hc, Nat.mul_one, List.getElem?_eq_getElem (by omega)] at hE
      simp only [Option.bind_eq_some_iff] at hE
      obtain ⟨c1, hc1, hy1⟩ := hE
      obtain ⟨v, rfl⟩ := hone _ _ _ hy1
      exact ⟨v, _, cell_of_cells?_one hc1, hy1⟩
    obtain ⟨v0, x0, h0, _⟩ := get 0 (by omega)
    obtain ⟨b, o, rfl, hlt⟩ := cell_plain h0
    obtain ⟨v, x, h1, h2⟩ := get j hj
    rw [Addr.add_lit] at h1
    exact ⟨b, o, v, m, x, rfl, hlt, h1, h2⟩

theorem c4 : Try.prog.cellsOf 4 = 1 := by kernel_rfl
theorem c9 : Try.prog.cellsOf 9 = 1 := by kernel_rfl
theorem c3 : Try.prog.cellsOf 3 = 1 := by kernel_rfl

theorem arg_bools {A : Option Addr} {n c : Nat} {d : DataW H} {p : List MemPlace} (h : DataW.Trod enc Try.prog W 0 (fun _ => true) true 51 (.slice A n c) d p) : n ≤ maxLen ∧ ∃ bl, ArgBools W A n bl := by
  obtain ⟨h1, h2⟩ := arg_row Try.underlying51 c4 (fun _ _ _ h => by obtain ⟨b, rfl, _⟩ := DataW.trod_bool Try.underlying4 h; exact ⟨_, rfl⟩) h
  refine ⟨h1, ?_⟩
  have : ∀ j, ∃ b : Bool, j < n → ∃ bb o, A = some ⟨bb, o, none⟩ ∧ bb < W.heap.size ∧ W.cell? ⟨bb, o + j, none⟩ = some (.bool b) := by
    intro j
    by_cases hj : j < n
    · obtain ⟨b, o, v, fuel, x, hA, hb, hc, hv⟩ := h2 j hj
      obtain ⟨y, e, _⟩ := DataW.trod_bool Try.underlying4 hv
      simp at e
      subst e
      exact ⟨y, fun _ => ⟨b, o, hA, hb, hc⟩⟩
    · exact ⟨false, fun h => absurd h hj⟩
  exact ⟨fun j => Classical.choose (this j), fun j hj => Classical.choose_spec (this j) hj⟩

/-- The strings, the ints of an argument, cell by cell. -/
def ArgStrs (w : World) (A : Option Addr) (n : Nat) (os : Nat → ByteArray) : Prop := ∀ j, j < n → ∃ b o, A = some ⟨b, o, none⟩ ∧ b < w.heap.size ∧ w.cell? ⟨b, o + j, none⟩ = some (.string (os j)) ∧ (os j).size ≤ maxLen
def ArgInts (w : World) (A : Option Addr) (n : Nat) (zs : Nat → Int) : Prop := ∀ j, j < n → ∃ b o, A = some ⟨b, o, none⟩ ∧ b < w.heap.size ∧ w.cell? ⟨b, o + j, none⟩ = some (.int .i64 (zs j))

theorem arg_strs {A : Option Addr} {n c : Nat} {d : DataW H} {p : List MemPlace} (h : DataW.Trod enc Try.prog W 0 (fun _ => true) true 22 (.slice A n c) d p) : n ≤ maxLen ∧ ∃ os, ArgStrs W A n os := by
  obtain ⟨h1, h2⟩ := arg_row Try.underlying22 c9 (fun _ _ _ h => by obtain ⟨b, rfl, _⟩ := DataW.trod_string Try.underlying9 h; exact ⟨_, rfl⟩) h
  refine ⟨h1, ?_⟩
  have : ∀ j, ∃ s : ByteArray, j < n → ∃ bb o, A = some ⟨bb, o, none⟩ ∧ bb < W.heap.size ∧ W.cell? ⟨bb, o + j, none⟩ = some (.string s) ∧ s.size ≤ maxLen := by
    intro j
    by_cases hj : j < n
    · obtain ⟨b, o, v, fuel, x, hA, hb, hc, hv⟩ := h2 j hj
      obtain ⟨y, e, _, hs⟩ := DataW.trod_string Try.underlying9 hv
      simp at e
      subst e
      exact ⟨y, fun _ => ⟨b, o, hA, hb, hc, hs⟩⟩
    · exact ⟨ByteArray.empty, fun h => absurd h hj⟩
  exact ⟨fun j => Classical.choose (this j), fun j hj => Classical.choose_spec (this j) hj⟩
theorem arg_ints {A : Option Addr} {n c : Nat} {d : DataW H} {p : List MemPlace} (h : DataW.Trod enc Try.prog W 0 (fun _ => true) true 23 (.slice A n c) d p) : n ≤ maxLen ∧ ∃ zs, ArgInts W A n zs := by
  obtain ⟨h1, h2⟩ := arg_row Try.underlying23 c3 (fun _ _ _ h => by obtain ⟨b, rfl, _⟩ := DataW.trod_int Try.underlying3 h; exact ⟨_, rfl⟩) h
  refine ⟨h1, ?_⟩
  have : ∀ j, ∃ s : Int, j < n → ∃ bb o, A = some ⟨bb, o, none⟩ ∧ bb < W.heap.size ∧ W.cell? ⟨bb, o + j, none⟩ = some (.int .i64 s) := by
    intro j
    by_cases hj : j < n
    · obtain ⟨b, o, v, fuel, x, hA, hb, hc, hv⟩ := h2 j hj
      obtain ⟨y, e, _⟩ := DataW.trod_int Try.underlying3 hv
      simp at e
      subst e
      exact ⟨y, fun _ => ⟨b, o, hA, hb, hc⟩⟩
    · exact ⟨0, fun h => absurd h hj⟩
  exact ⟨fun j => Classical.choose (this j), fun j hj => Classical.choose_spec (this j) hj⟩
end
end Go.Proofs.Ytgifckledbopmaa
