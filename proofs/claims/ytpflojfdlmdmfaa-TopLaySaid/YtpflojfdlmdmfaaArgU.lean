/- What the reading of a slice of bytes gives the walks. -/
import Derived.Test.YtpflojfdlmdmfaaArgs
import Derived.Test.YtpflojfdlmdmfaaTop
namespace Go.Proofs.Ytpflojfdlmdmfaa
open Go.ChangeShapes Go.WideShapes Go.ChangeAt Go.WideMaps Go.WideElems Go.RowKit

section
variable {H : Type} {enc : TypeId × Value → H} {W : World}
theorem c5 : Try.prog.cellsOf 5 = 1 := by kernel_rfl
theorem u8_of {n : Int} (hw : (Lit.int .u8 n).wf = true) : 0 ≤ n ∧ n ≤ 255 := by
  simp [Lit.wf, IntKind.signed, IntKind.bits, IntKind.min, IntKind.max] at hw
  omega
theorem arg_u8 {A : Option Addr} {n c : Nat} {d : DataW H} {p : List MemPlace} (h : DataW.Trod enc Try.prog W 0 (fun _ => true) true 22 (.slice A n c) d p) : ∃ zs, ArgU8 W A n zs := by
  obtain ⟨fuel, hf⟩ := h
  rcases DataW.trod_slice Try.underlying22 hf with ⟨hcs, hx⟩ | ⟨a, len, cap, elems, rest, m, _, hcs, hx, _, hl, hm, hlen, hel, _, _⟩
  · simp [Value.cells] at hcs
    obtain ⟨rfl, rfl, rfl⟩ := hcs
    exact ⟨fun _ => 0, fun j hj => by omega⟩
  · simp [Value.cells] at hcs
    obtain ⟨rfl, rfl, rfl⟩ := hcs
    have get : ∀ i, i < n → ∃ z, W.cell? (a.add i) = some (.int .u8 z) ∧ 0 ≤ z ∧ z ≤ 255 := by
      intro i hi
      have hE := hel i hi
      rw [c5, Nat.mul_one, List.getElem?_eq_getElem (by omega)] at hE
      simp only [Option.bind_eq_some_iff] at hE
      obtain ⟨c1, hc1, hy1⟩ := hE
      obtain ⟨z, hz, _, hw⟩ := DataW.trod_int Try.underlying5 hy1
      subst hz
      exact ⟨z, cell_of_cells?_one hc1, u8_of hw⟩
    have : ∀ j, ∃ z : Int, j < n → ∃ bb o, (some a : Option Addr) = some ⟨bb, o, none⟩ ∧ bb < W.heap.size ∧ W.cell? ⟨bb, o + j, none⟩ = some (.int .u8 z) ∧ 0 ≤ z ∧ z ≤ 255 := by
      intro j
      by_cases hj : j < n
      · obtain ⟨z0, h0, _⟩ := get 0 (by omega)
        obtain ⟨b, o, rfl, hlt⟩ := cell_plain h0
        obtain ⟨z, h1, h2⟩ := get j hj
        rw [Addr.add_lit] at h1
        exact ⟨z, fun _ => ⟨b, o, rfl, hlt, h1, h2⟩⟩
      · exact ⟨0, fun h => absurd h hj⟩
    exact ⟨fun j => Classical.choose (this j), fun j hj => Classical.choose_spec (this j) hj⟩
end
end Go.Proofs.Ytpflojfdlmdmfaa
