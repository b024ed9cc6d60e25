/- What the listed table of terms gives the walks: its cells, and those of the papers that it points to. -/
import Derived.Test.YtlmbdpncbmfopaaDoorRows
import Derived.Test.YtlmbdpncbmfopaaDoorWalks
import Derived.ProofKit
import Derived.LaidMore
import Derived.OpenShut
namespace Go.Proofs.YtlmbdpncbmfopaaDoor
open Go.ChangeShapes Go.WideShapes Go.ChangeAt Go.WideMaps Go.WideElems Go.RowKit

theorem gTerms : Tryd.prog.globalNamed "supercargo/term.terms" = some 0 := by kernel_rfl
theorem tTerms : (Tryd.prog.globals[0]?).map (·.type) = some 52 := by kernel_rfl
theorem c48 : Tryd.prog.cellsOf 48 = 4 := by kernel_rfl
theorem c52 : Tryd.prog.cellsOf 52 = 32 := by kernel_rfl
theorem c3 : Tryd.prog.cellsOf 3 = 1 := by kernel_rfl
theorem c9 : Tryd.prog.cellsOf 9 = 1 := by kernel_rfl
theorem c28 : Tryd.prog.cellsOf 28 = 1 := by kernel_rfl

section
variable {H : Type} {enc : TypeId × Value → H} {W : World}

def litInt {H : Type} (z : Int) : DataW H := .lit (.int .i64 z)

theorem ints_of_trod {fuel : Nat} {cs : List Value} {zs : List Int} {p : List MemPlace}
    (h : DataW.trod enc Tryd.prog W 0 (fun _ => true) false fuel 28 cs = some (.slice (zs.map litInt) [], p)) :
    ∃ a, cs = [.slice (some a) zs.length zs.length] ∧ ∀ j u, zs[j]? = some u → W.cell? (a.add j) = some (.int .i64 u) := by
  rcases DataW.trod_slice Tryd.underlying28 h with ⟨_, hx⟩ | ⟨a, len, cap, elems, rest, n, _, hcs, hx, _, hl, _, hlen, hel, hsp, _⟩
  · simp at hx
  simp only [Prod.mk.injEq, DataW.slice.injEq] at hx
  obtain ⟨⟨he, hr⟩, _⟩ := hx
  have hr0 : rest = [] := by simpa using hr.symm
  have hcap := (hsp rfl).1
  rw [hr0] at hcap
  have hlz : zs.length = len := by rw [← hlen]; simpa using congrArg List.length he
  have hc : cap = len := by simp at hcap; omega
  subst hc
  refine ⟨a, by rw [hlz]; exact hcs, fun j u hu => ?_⟩
  have hj : j < cap := by rw [← hlz]; exact (List.getElem?_eq_some_iff.1 hu).1
  have hE := hel j hj
  rw [c3, Nat.mul_one] at hE
  have hd : (elems.map (·.1))[j]? = some (litInt u) := by rw [← he, List.getElem?_map, hu]; rfl
  rw [List.getElem?_map] at hd
  cases hy : elems[j]? with
  | none => simp [hy] at hd
  | some y =>
    rw [hy] at hE hd
    simp only [Option.map_some, Option.some.injEq] at hd
    simp only [Option.bind_eq_some_iff] at hE
    obtain ⟨c1, hc1, hy1⟩ := hE
    obtain ⟨z, rfl, hz, _⟩ := DataW.trod_int Tryd.underlying3 hy1
    have : y.1 = litInt z := by rw [hz]; rfl
    rw [hd] at this
    unfold litInt at this
    injection this with this
    injection this with _ this
    subst this
    exact cell_of_cells?_one hc1

theorem four_of {α : Type} {l : List α} (h : l.length = 4) : ∃ a b c d, l = [a, b, c, d] := by
  match l, h with
  | [a, b, c, d], _ => exact ⟨a, b, c, d, rfl⟩

theorem term_of_trod {fuel : Nat} {cs : List Value} {s : List UInt8} {c r : Int} {zs : List Int} {p : List MemPlace}
    (h : DataW.trod enc Tryd.prog W 0 (fun _ => true) false fuel 48 cs = some (.agg [.lit (.string s), litInt c, litInt r, .slice (zs.map litInt) []], p)) :
    ∃ a, cs = [.string ⟨s.toArray⟩, .int .i64 c, .int .i64 r, .slice (some a) zs.length zs.length] ∧ ∀ j u, zs[j]? = some u → W.cell? (a.add j) = some (.int .i64 u) := by
  obtain ⟨xs, m, _, hx, hlen, hn, hel⟩ := DataW.trod_struct Tryd.underlying48 h
  rw [c48] at hlen
  simp only [Prod.mk.injEq, DataW.agg.injEq] at hx
  obtain ⟨v0, v1, v2, v3, rfl⟩ := four_of hlen
  obtain ⟨x0, x1, x2, x3, rfl⟩ := four_of hn
  · have sel : ∀ (f : Field) (i : Nat) (x : DataW H × List MemPlace), (#[{ name := "name", type := 9, offset := 0, embedded := false, tag := "", pkgPath := "supercargo/term", byteOffset := 0 }, { name := "cost", type := 3, offset := 1, embedded := false, tag := "", pkgPath := "supercargo/term", byteOffset := 16 }, { name := "risk", type := 3, offset := 2, embedded := false, tag := "", pkgPath := "supercargo/term", byteOffset := 24 }, { name := "papers", type := 28, offset := 3, embedded := false, tag := "", pkgPath := "supercargo/term", byteOffset := 32 }] : Array Field)[i]? = some f → [x0, x1, x2, x3][i]? = some x → DataW.trod enc Tryd.prog W 0 (fun _ => true) false m f.type ((([v0, v1, v2, v3] : List Value).drop f.offset).take (Tryd.prog.cellsOf f.type)) = some x := fun f i x hf hx => (hel i f hf).trans hx
    obtain ⟨hd, _⟩ := hx
    simp only [List.map_cons, List.map_nil, List.cons.injEq, and_true] at hd
    obtain ⟨d0, d1, d2, d3⟩ := hd
    have h0 : DataW.trod enc Tryd.prog W 0 (fun _ => true) false m 9 ((([v0, v1, v2, v3] : List Value).drop 0).take (Tryd.prog.cellsOf 9)) = some x0 := sel { name := "name", type := 9, offset := 0, embedded := false, tag := "", pkgPath := "supercargo/term", byteOffset := 0 } 0 _ rfl rfl
    have h1 : DataW.trod enc Tryd.prog W 0 (fun _ => true) false m 3 ((([v0, v1, v2, v3] : List Value).drop 1).take (Tryd.prog.cellsOf 3)) = some x1 := sel { name := "cost", type := 3, offset := 1, embedded := false, tag := "", pkgPath := "supercargo/term", byteOffset := 16 } 1 _ rfl rfl
    have h2 : DataW.trod enc Tryd.prog W 0 (fun _ => true) false m 3 ((([v0, v1, v2, v3] : List Value).drop 2).take (Tryd.prog.cellsOf 3)) = some x2 := sel { name := "risk", type := 3, offset := 2, embedded := false, tag := "", pkgPath := "supercargo/term", byteOffset := 24 } 2 _ rfl rfl
    have h3 : DataW.trod enc Tryd.prog W 0 (fun _ => true) false m 28 ((([v0, v1, v2, v3] : List Value).drop 3).take (Tryd.prog.cellsOf 28)) = some x3 := sel { name := "papers", type := 28, offset := 3, embedded := false, tag := "", pkgPath := "supercargo/term", byteOffset := 32 } 3 _ rfl rfl
    rw [c9] at h0
    rw [c3] at h1 h2
    rw [c28] at h3
    simp only [List.drop_zero, List.drop_succ_cons, List.take_succ_cons, List.take_zero] at h0 h1 h2 h3
    obtain ⟨s', e0, y0, _⟩ := DataW.trod_string Tryd.underlying9 h0
    obtain ⟨z1, e1, y1, _⟩ := DataW.trod_int Tryd.underlying3 h1
    obtain ⟨z2, e2, y2, _⟩ := DataW.trod_int Tryd.underlying3 h2
    have k3 : x3 = (.slice (zs.map litInt) [], x3.2) := by rw [d3]
    rw [k3] at h3
    obtain ⟨a, e3, hc⟩ := ints_of_trod h3
    rw [y0] at d0; rw [y1] at d1; rw [y2] at d2
    simp only [List.cons.injEq, and_true] at e0 e1 e2 e3
    unfold litInt at d1 d2
    simp only [DataW.lit.injEq, Lit.int.injEq, Lit.string.injEq, true_and] at d0 d1 d2
    refine ⟨a, ?_, hc⟩
    rw [e0, e1, e2, e3, d0, d1, d2]

/-- The table's datum gives its cells. -/
theorem terms_of_trod {fuel : Nat} {cs : Array Value} {p : List MemPlace} (hv : ∀ i, W.cell? ⟨0, i, none⟩ = cs[i]?)
    (h : DataW.trod enc Tryd.prog W 0 (fun _ => true) false fuel 52 cs.toList = some (Rows.laid_supercargo_term_terms, p)) : ∃ pa, Terms pa W := by
  obtain ⟨xs, m, _, hx, hlen, hn, hel⟩ := DataW.trod_array Tryd.underlying52 h
  rw [c48] at hel
  rw [c52] at hlen
  simp only [Prod.mk.injEq] at hx
  obtain ⟨hx, _⟩ := hx
  have key : ∀ k : Nat, k < 8 → ∃ a, (cs.toList.drop (k * 4)).take 4 = [.string (nameOf k), .int .i64 (costOf k), .int .i64 (riskOf k), .slice (some a) (papersOf k).length (papersOf k).length] ∧ ∀ j u, (papersOf k)[j]? = some u → W.cell? (a.add j) = some (.int .i64 u) := by
    intro k hk
    have hE := hel k hk
    have hdat : ∃ s : List UInt8, nameOf k = ⟨s.toArray⟩ ∧ (xs.map (·.1))[k]? = some (.agg [.lit (.string s), litInt (costOf k), litInt (riskOf k), .slice ((papersOf k).map litInt) []]) := by
      have := hx
      unfold Rows.laid_supercargo_term_terms at this
      simp only [DataW.agg.injEq] at this
      rw [← this]
      match k, hk with
      | 0, _ => exact ⟨_, rfl, rfl⟩
      | 1, _ => exact ⟨_, rfl, rfl⟩
      | 2, _ => exact ⟨_, rfl, rfl⟩
      | 3, _ => exact ⟨_, rfl, rfl⟩
      | 4, _ => exact ⟨_, rfl, rfl⟩
      | 5, _ => exact ⟨_, rfl, rfl⟩
      | 6, _ => exact ⟨_, rfl, rfl⟩
      | 7, _ => exact ⟨_, rfl, rfl⟩
    obtain ⟨s, hs, hd⟩ := hdat
    rw [List.getElem?_map] at hd
    cases hy : xs[k]? with
    | none => simp [hy] at hd
    | some y =>
      rw [hy] at hE hd
      simp only [Option.map_some, Option.some.injEq] at hd
      have ky : y = (.agg [.lit (.string s), litInt (costOf k), litInt (riskOf k), .slice ((papersOf k).map litInt) []], y.2) := by rw [← hd]
      rw [ky] at hE
      obtain ⟨a, e, hc⟩ := term_of_trod hE
      exact ⟨a, by rw [hs]; exact e, hc⟩
  have hch : ∃ pa : Nat → Addr, ∀ k : Nat, k < 8 → (cs.toList.drop (k * 4)).take 4 = [.string (nameOf k), .int .i64 (costOf k), .int .i64 (riskOf k), .slice (some (pa k)) (papersOf k).length (papersOf k).length] ∧ ∀ j u, (papersOf k)[j]? = some u → W.cell? ((pa k).add j) = some (.int .i64 u) := by
    refine ⟨fun k => if hk : k < 8 then Classical.choose (key k hk) else ⟨0, 0, none⟩, fun k hk => ?_⟩
    simp only [hk, dif_pos]
    exact Classical.choose_spec (key k hk)
  obtain ⟨pa, hpa⟩ := hch
  have at_ : ∀ k : Nat, k < 8 → ∀ j : Nat, j < 4 → ∀ v, ([.string (nameOf k), .int .i64 (costOf k), .int .i64 (riskOf k), .slice (some (pa k)) (papersOf k).length (papersOf k).length] : List Value)[j]? = some v → W.cell? ⟨0, k * 4 + j, none⟩ = some v := by
    intro k hk j hj v h
    rw [← (hpa k hk).1, List.getElem?_take, if_pos hj, List.getElem?_drop] at h
    rw [hv, ← h, Array.getElem?_toList]
  have size : 0 < W.heap.size := by
    have := at_ 0 (by omega) 0 (by omega) _ rfl
    rcases Nat.eq_zero_or_pos W.heap.size with h0 | h0
    · unfold World.cell? at this
      rw [Array.getElem?_eq_none (by show W.heap.size ≤ 0; omega)] at this
      cases this
    · exact h0
  refine ⟨pa, size, fun k hk => at_ k hk 0 (by omega) _ rfl, fun k hk => at_ k hk 1 (by omega) _ rfl, fun k hk => at_ k hk 2 (by omega) _ rfl, fun k hk => at_ k hk 3 (by omega) _ rfl, fun k hk => ?_, fun k hk => (hpa k hk).2⟩
  have h0 : (papersOf k)[0]? = some 0 := by
    match k, hk with
    | 0, _ => rfl
    | 1, _ => rfl
    | 2, _ => rfl
    | 3, _ => rfl
    | 4, _ => rfl
    | 5, _ => rfl
    | 6, _ => rfl
    | 7, _ => rfl
  have hc := (hpa k hk).2 0 0 h0
  rcases Nat.lt_or_ge (pa k).block W.heap.size with h | h
  · exact h
  · unfold World.cell? at hc
    rw [Array.getElem?_eq_none (by rw [add_block]; exact h)] at hc
    cases hc
end

/-- The condition 'the variable reads as listed' gives the walks' table. -/
theorem of_laid {W : World} (h : laidMetH Tryd.prog [("supercargo/term.terms", Rows.laid_supercargo_term_terms)] W) : ∃ pa, Terms pa W := by
  rw [MakeChecks.laidMetH_plain _ _ _ (by kernel_rfl)] at h
  obtain ⟨ps, ⟨g0, t0, cs0, f0, p0, q0, hg0, ht0, hv0, hd0, _, _⟩, _, _⟩ := h
  obtain rfl := Option.some.inj (gTerms.symm.trans hg0)
  obtain rfl := Option.some.inj (tTerms.symm.trans ht0)
  exact terms_of_trod (World.var?_cell hg0 hv0) hd0
end Go.Proofs.YtlmbdpncbmfopaaDoor
