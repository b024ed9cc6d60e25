/- What the readings of the arguments give the walks: a lay, and the stretches of a slice, cell by cell. -/
import Derived.Test.YtpflojfdlmdmfaaBase
import Derived.ProofKit
import Derived.SliceStrings
import Derived.Deep.Strs
namespace Go.Proofs.Ytpflojfdlmdmfaa
open Go.ChangeShapes Go.WideShapes Go.ChangeAt Go.WideMaps Go.WideElems Go.RowKit

section
variable {H : Type} {enc : TypeId × Value → H} {W : World}
theorem cell_plain {a : Addr} {v : Value} (h : W.cell? (a.add 0) = some v) : ∃ b o, a = ⟨b, o, none⟩ ∧ b < W.heap.size := by
  obtain ⟨b, o, spot⟩ := a
  have hspot : spot = none := by simpa [Addr.add] using World.cell?_spot h
  subst hspot
  refine ⟨b, o, rfl, ?_⟩
  have := World.block_lt_of_cell? W _ h
  simpa [Addr.add] using this

theorem c28 : Try.prog.cellsOf 28 = 3 := by kernel_rfl
theorem c25 : Try.prog.cellsOf 25 = 3 := by kernel_rfl
theorem c3 : Try.prog.cellsOf 3 = 1 := by kernel_rfl
theorem c2 : Try.prog.cellsOf 2 = 1 := by kernel_rfl

theorem three_of {α : Type} {l : List α} (h : l.length = 3) : ∃ a b c, l = [a, b, c] := by
  match l, h with
  | [a, b, c], _ => exact ⟨a, b, c, rfl⟩

theorem i64_of {n : Int} (hw : (Lit.int .i64 n).wf = true) : i64b n := by
  simp [Lit.wf, IntKind.signed, IntKind.bits, IntKind.min, IntKind.max] at hw
  exact hw

theorem st_of_trod {fuel : Nat} {cs : List Value} {x : DataW H × List MemPlace} (h : DataW.trod enc Try.prog W 0 (fun _ => true) true fuel 28 cs = some x) :
    ∃ f t h, cs = [.int .i64 f, .int .i64 t, .int .i64 h] ∧ i64b f ∧ i64b t ∧ i64b h := by
  obtain ⟨y0, y1, y2, m, _, hl, t0, t1, t2⟩ := Go.Deep.trod_struct3 Try.underlying28 h
  rw [c28] at hl
  obtain ⟨v0, v1, v2, rfl⟩ := three_of hl
  simp only [c3, List.drop_zero, List.drop_succ_cons, List.take_succ_cons, List.take_zero] at t0 t1 t2
  obtain ⟨k, e0, _, w0⟩ := DataW.trod_int Try.underlying3 t0
  obtain ⟨n, e1, _, w1⟩ := DataW.trod_int Try.underlying3 t1
  obtain ⟨t, e2, _, w2⟩ := DataW.trod_int Try.underlying3 t2
  simp at e0 e1 e2
  subst e0; subst e1; subst e2
  exact ⟨k, n, t, rfl, i64_of w0, i64_of w1, i64_of w2⟩

theorem arg_sts {A : Option Addr} {n c : Nat} {d : DataW H} {p : List MemPlace} (h : DataW.Trod enc Try.prog W 0 (fun _ => true) true 26 (.slice A n c) d p) : n ≤ maxLen ∧ ∃ ss, Sts W A n ss := by
  obtain ⟨fuel, hf⟩ := h
  rcases DataW.trod_slice Try.underlying26 hf with ⟨hcs, hx⟩ | ⟨a, len, cap, elems, rest, m, _, hcs, hx, _, hl, hm, hlen, hel, _, _⟩
  · simp [Value.cells] at hcs
    obtain ⟨rfl, rfl, rfl⟩ := hcs
    exact ⟨by simp [maxLen], fun _ => ⟨0, 0, 0⟩, fun j hj => by omega⟩
  · simp [Value.cells] at hcs
    obtain ⟨rfl, rfl, rfl⟩ := hcs
    refine ⟨by omega, ?_⟩
    have get : ∀ i, i < n → ∃ f t h, (∀ j u, [Value.int .i64 f, .int .i64 t, .int .i64 h][j]? = some u → W.cell? ((a.add (i * 3)).add j) = some u) ∧ i64b f ∧ i64b t ∧ i64b h := by
      intro i hi
      have hE := hel i hi
      rw [c28, List.getElem?_eq_getElem (by omega)] at hE
      simp only [Option.bind_eq_some_iff] at hE
      obtain ⟨cs, hc1, hy1⟩ := hE
      obtain ⟨_, hcl, hcc⟩ := World.cells?_some hc1
      obtain ⟨f, t, h, rfl, w0, w1, w2⟩ := st_of_trod hy1
      refine ⟨f, t, h, fun j u hu => ?_, w0, w1, w2⟩
      have hj : j < 3 := (List.getElem?_eq_some_iff.1 hu).1
      rw [hcc j hj]; exact hu
    have : ∀ j, ∃ s : St, j < n → ∃ bb off, (some a : Option Addr) = some ⟨bb, off, none⟩ ∧ bb < W.heap.size ∧ W.cell? ⟨bb, off + j * 3, none⟩ = some (.int .i64 s.f) ∧ W.cell? ⟨bb, off + j * 3 + 1, none⟩ = some (.int .i64 s.t) ∧ W.cell? ⟨bb, off + j * 3 + 2, none⟩ = some (.int .i64 s.h) ∧
        i64b s.f ∧ i64b s.t ∧ i64b s.h := by
      intro j
      by_cases hj : j < n
      · obtain ⟨k0, z0, t0, h0, _⟩ := get 0 (by omega)
        have h00 := h0 0 _ rfl
        obtain ⟨b, o, rfl, hlt⟩ : ∃ b o, a = ⟨b, o, none⟩ ∧ b < W.heap.size := by
          refine cell_plain (v := .int .i64 k0) ?_
          simpa [Addr.add] using h00
        obtain ⟨k, z, t, h1, h2, h3, h4⟩ := get j hj
        have q0 := h1 0 _ rfl
        have q1 := h1 1 _ rfl
        have q2 := h1 2 _ rfl
        rw [Addr.add_lit, Addr.add_lit] at q0 q1 q2
        exact ⟨⟨k, z, t⟩, fun _ => ⟨b, o, rfl, hlt, q0, q1, q2, h2, h3, h4⟩⟩
      · exact ⟨⟨0, 0, 0⟩, fun h => absurd h hj⟩
    exact ⟨fun j => Classical.choose (this j), fun j hj => Classical.choose_spec (this j) hj⟩

set_option maxRecDepth 100000 in
/-- A lay that is an argument. -/
theorem arg_lay {r : Reach} {b0 : Nat} {v : Value} {d : DataW H} {p : List MemPlace} (hv : Value.okWide Try.prog W r b0 25 v) (h : DataW.Trod enc Try.prog W 0 (fun _ => true) true 25 v d p) : ∃ l, v = laV l := by
  obtain ⟨cs, rfl, hsz⟩ := okWide_struct Try.underlying25 hv
  obtain ⟨fuel, hf⟩ := h
  obtain ⟨y0, y1, y2, m, _, hl, t0, t1, t2⟩ := Go.Deep.trod_struct3 Try.underlying25 hf
  rw [c25] at hsz
  obtain ⟨l⟩ := cs
  obtain ⟨v0, v1, v2, rfl⟩ := three_of hsz
  simp only [Value.cells, c3, c2, List.drop_zero, List.drop_succ_cons, List.take_succ_cons, List.take_zero] at t0 t1 t2
  obtain ⟨k, e0, _, _⟩ := DataW.trod_int Try.underlying3 t0
  obtain ⟨n, e1, _, _⟩ := DataW.trod_int Try.underlying2 t1
  obtain ⟨t, e2, _, _⟩ := DataW.trod_int Try.underlying2 t2
  simp at e0 e1 e2
  subst e0; subst e1; subst e2
  exact ⟨⟨k, n, t⟩, rfl⟩
end
end Go.Proofs.Ytpflojfdlmdmfaa
