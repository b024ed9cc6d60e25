/- The start that meets the condition on both tables; what the condition gives the walks. -/
import Derived.Test.YtlmbdpncbmfopaaDoorDoor
import Derived.Test.YtlmbdpncbmfopaaDoorNames
namespace Go.Proofs.YtlmbdpncbmfopaaDoor
open Go.ChangeShapes Go.WideShapes Go.ChangeAt Go.WideMaps Go.WideElems Go.RowKit

abbrev laid2 : List (String × DataW Unit) := [("supercargo/term.stages", Rows.laid_supercargo_term_stages), ("supercargo/term.terms", Rows.laid_supercargo_term_terms)]
theorem gStages : Tryd.prog.globalNamed "supercargo/term.stages" = some 1 := by kernel_rfl
theorem tStages : (Tryd.prog.globals[1]?).map (·.type) = some 53 := by kernel_rfl
theorem c53 : Tryd.prog.cellsOf 53 = 8 := by kernel_rfl

theorem door_met2 (os : Os) (args : Array Value) : laidMetH Tryd.prog laid2 ((World.doorLaid Tryd.prog 35 os).forCall (fun _ _ => 0) ⟨#[], args, []⟩).memory :=
  laidMetH_of_parts3 (fuel := 8) (laidMet_of_run' 8 (by kernel_rfl) (by kernel_rfl)) (by kernel_rfl) (by kernel_rfl)

section
variable {H : Type} {enc : TypeId × Value → H} {W : World}
theorem stages_of_trod {fuel : Nat} {cs : Array Value} {p : List MemPlace} (hlt : 1 < W.heap.size) (hv : ∀ i, W.cell? ⟨1, i, none⟩ = cs[i]?)
    (h : DataW.trod enc Tryd.prog W 0 (fun _ => true) false fuel 53 cs.toList = some (Rows.laid_supercargo_term_stages, p)) : HasStrs W ⟨1, 0, none⟩ stages := by
  obtain ⟨xs, m, _, hx, hlen, hn, hel⟩ := DataW.trod_array Tryd.underlying53 h
  rw [c9] at hel
  rw [c53] at hlen
  simp only [Prod.mk.injEq] at hx
  obtain ⟨hx, _⟩ := hx
  refine ⟨hlt, fun j u hu => ?_⟩
  have hj : j < 8 := (List.getElem?_eq_some_iff.1 hu).1
  have hE := hel j hj
  rw [Nat.mul_one] at hE
  have hd : (xs.map (·.1))[j]? = some (.lit (.string u.data.toList)) := by
    have := hx
    unfold Rows.laid_supercargo_term_stages at this
    simp only [DataW.agg.injEq] at this
    rw [← this]
    match j, hj, hu with
    | 0, _, hu => cases hu; rfl
    | 1, _, hu => cases hu; rfl
    | 2, _, hu => cases hu; rfl
    | 3, _, hu => cases hu; rfl
    | 4, _, hu => cases hu; rfl
    | 5, _, hu => cases hu; rfl
    | 6, _, hu => cases hu; rfl
    | 7, _, hu => cases hu; rfl
  rw [List.getElem?_map] at hd
  cases hy : xs[j]? with
  | none => simp [hy] at hd
  | some y =>
    rw [hy] at hE hd
    simp only [Option.map_some, Option.some.injEq] at hd
    obtain ⟨s, e, hy2, _⟩ := DataW.trod_string Tryd.underlying9 hE
    have hsu : s = u := by
      rw [hy2] at hd
      simp only [DataW.lit.injEq, Lit.string.injEq] at hd
      cases s; cases u
      simp only [ByteArray.mk.injEq]
      exact Array.toList_inj.1 hd
    subst hsu
    have hget : (List.drop j cs.toList)[0]? = some (.string s) := by
      have : (List.take 1 (List.drop j cs.toList))[0]? = some (.string s) := by rw [e]; rfl
      rwa [List.getElem?_take, if_pos (by omega)] at this
    rw [List.getElem?_drop, Nat.add_zero, Array.getElem?_toList] at hget
    rw [Addr.add_lit, Nat.zero_add, hv, hget]
end

/-- The condition 'the two variables read as listed' gives the walks' tables. -/
theorem of_laid2 {W : World} (h : laidMetH Tryd.prog laid2 W) : ∃ pa, Both pa W := by
  rw [MakeChecks.laidMetH_plain _ _ _ (by kernel_rfl)] at h
  obtain ⟨ps, ⟨g0, t0, cs0, f0, p0, q0, hg0, ht0, hv0, hd0, ⟨g1, t1, cs1, f1, p1, q1, hg1, ht1, hv1, hd1, _, _⟩, _⟩, _, _⟩ := h
  obtain rfl := Option.some.inj (gStages.symm.trans hg0)
  obtain rfl := Option.some.inj (tStages.symm.trans ht0)
  obtain rfl := Option.some.inj (gTerms.symm.trans hg1)
  obtain rfl := Option.some.inj (tTerms.symm.trans ht1)
  obtain ⟨pa, hT⟩ := terms_of_trod (World.var?_cell hg1 hv1) hd1
  have hsz : cs1.size = 32 := by
    obtain ⟨xs, m, _, hx, hlen, hn, hel⟩ := DataW.trod_array Tryd.underlying52 hd1
    rw [c52] at hlen
    simpa using hlen
  have hsz0 : cs0.size = 8 := by
    obtain ⟨xs, m, _, hx, hlen, hn, hel⟩ := DataW.trod_array Tryd.underlying53 hd0
    rw [c53] at hlen
    simpa using hlen
  have hblk : ∀ (n : String) (g : Nat) (cs : Array Value), Tryd.prog.globalNamed n = some g → W.var? Tryd.prog n = some cs → ∃ t fr, W.heap[g]? = some (.cells cs t fr) := by
    intro n g cs hg hv
    unfold World.var? at hv
    rw [hg, Option.bind_some] at hv
    cases hh : W.heap[g]? with
    | none => rw [hh] at hv; cases hv
    | some o =>
      rw [hh] at hv
      cases o <;> simp at hv
      subst hv
      exact ⟨_, _, rfl⟩
  obtain ⟨ty, fr, hb⟩ := hblk _ _ _ hg1 hv1
  obtain ⟨ty0, fr0, hb0⟩ := hblk _ _ _ hg0 hv0
  have hlt : 1 < W.heap.size := by
    rcases Nat.lt_or_ge 1 W.heap.size with h | h
    · exact h
    · rw [Array.getElem?_eq_none h] at hb0; cases hb0
  exact ⟨pa, hT, ⟨cs1, ty, fr, hb, hsz⟩, stages_of_trod hlt (World.var?_cell hg0 hv0) hd0⟩
end Go.Proofs.YtlmbdpncbmfopaaDoor
