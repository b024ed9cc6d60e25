/- The walks of Needs (the program's and the document's), of Clone and Same: which papers. -/
import Derived.Test.YtlmbdpncbmfopaaDoorWalks
import Derived.WalkSpells
import Derived.OwnWalk
import Derived.Deep.AppendLies
import Derived.Maps.AppendAt
import Derived.Laws.OwnMore
namespace Go.Proofs.YtlmbdpncbmfopaaDoor
open Go.RowKit

def ints (zs : List Int) : List Value := zs.map (Value.int .i64)

theorem info3 : (Tryd.prog.info? 3).map (fun i => (i.zero, i.size, i.bytes)) = some (some (.int .i64 0), 1, 8) := by kernel_rfl

set_option maxHeartbeats 400000 in
theorem clone_nil (w : World) : Calls Tryd.prog 28 #[.slice none 0 0] w fun e w' => e = .returned (.slice none 0 0) ∧ Below w.heap.size w w' := by
  have hE := fun W => Lib.run_eql_slice_nil (P := Tryd.prog) W 28 3 none 0 0 0 0 Tryd.underlying28
  go_enter Tryd.func28, Tryd.ntmps28
  go_wp2
  go_ret
  exact ⟨rfl, Below.refl _ _⟩

set_option maxHeartbeats 400000 in
theorem clone_some (a : Addr) (zs : List Int) (w : World) (hn : zs.length ≤ 1000) (hlt : a.block < w.heap.size) (hc : ∀ j u, (ints zs)[j]? = some u → w.cell? (a.add j) = some u) :
    Calls Tryd.prog 28 #[.slice (some a) zs.length zs.length] w fun e w' => ∃ v, e = .returned v ∧ w'.ownsRow w.heap.size 3 1 v zs.length (ints zs) ∧ Below w.heap.size w w' := by
  obtain ⟨i0, hi0, hz0, hz1, hz2⟩ := info_parts info3
  have hcH := Lib.hid hc
  clear hc
  have hE := fun W => Lib.run_eql_slice_nil (P := Tryd.prog) W 28 3 (some a) zs.length zs.length 0 0 Tryd.underlying28
  go_enter Tryd.func28, Tryd.ntmps28
  have h1 : ∀ u ∈ ints zs, u.oneCell' = true := by
    intro u hu
    obtain ⟨z, _, rfl⟩ := List.mem_map.1 hu
    rfl
  have hl : (ints zs).length = zs.length * 1 := by simp [ints]
  have H1 := Lib.hid h1
  have HL := Lib.hid hl
  clear h1 hl
  go_wp2_with (first
    | (at_builtin
       refine wpList_append_own _ rfl (.tmp 5) (.tmp 6) _ rfl w.heap.size 3 i0 _ 1 8 Tryd.underlying28 hi0 hz0 hz1 hz2 rfl (by omega) (.slice (some ⟨w.heap.size, 0, none⟩) 0 0) 0 [] rfl
         (World.ownsRow_lit w #[] 0 (Nat.le_refl _) (by simp [maxLen]) rfl) a zs.length zs.length (ints zs) rfl HL.out (fun j u hu => ?c1) H1.out (by simp only [maxLen]; omega) (by omega) (by simp) ?_
       case c1 => rw [World.cell?_alloc_lt w _ _ (by rw [add_block]; exact hlt)]; exact hcH.out j u hu
       intro v1 w1 hown1 hg1 _))
  go_ret
  refine ⟨v1, rfl, by simpa using hown1, ?_⟩
  exact ((Below.refl _ _).alloc (Nat.le_refl _) _).grown hg1 (by simp) (fun k hk => by simp [Value.ownBlock] at hk; omega)
/-- A slice of ints of the call's own, known cell by cell. -/
def HasInts (B : Nat) (w : World) (v : Value) (zs : List Int) : Prop :=
  ∃ g cap, v = .slice (some ⟨g, 0, none⟩) zs.length cap ∧ B ≤ g ∧ g < w.heap.size ∧ ∀ j u, zs[j]? = some u → w.cell? ⟨g, j, none⟩ = some (.int .i64 u)

theorem HasInts.of_own {base B : Nat} {w : World} {v : Value} {zs : List Int} (h : w.ownsRow base 3 1 v zs.length (ints zs)) (hz : 0 < zs.length) (hB : B ≤ base) : HasInts B w v zs := by
  obtain ⟨g, cap, rfl, hb, hlt⟩ := h.form hz
  refine ⟨g, cap, rfl, Nat.le_trans hB hb, hlt, fun j u hu => ?_⟩
  have := h.cells (g := g) rfl j (.int .i64 u) (by unfold ints; rw [List.getElem?_map, hu]; rfl)
  rw [Addr.add_lit] at this
  simpa using this

theorem HasInts.below {B B' : Nat} {w w' : World} {v : Value} {zs : List Int} (h : HasInts B w v zs) (hb : Below B' w w') (hB : w.heap.size ≤ B') : HasInts B w' v zs := by
  obtain ⟨g, cap, rfl, h1, h2, h3⟩ := h
  exact ⟨g, cap, rfl, h1, Nat.lt_of_lt_of_le h2 hb.size, fun j u hu => by rw [hb.cell (by show g < B'; omega)]; exact h3 j u hu⟩

theorem papers_len (t : Int) (hi : inT t = true) : 2 ≤ (papersOf t).length ∧ (papersOf t).length ≤ 4 := by
  have h1 : ∀ i : Fin 8, 2 ≤ (papersOf (i.val : Int)).length ∧ (papersOf (i.val : Int)).length ≤ 4 := by decide +kernel
  obtain ⟨a0, a1⟩ := (inT_iff t).1 hi
  obtain ⟨i, rfl⟩ := Int.eq_ofNat_of_zero_le a0
  exact h1 ⟨i, by omega⟩

set_option maxHeartbeats 400000 in
theorem needs_in (pa : Nat → Addr) (t : Int) (w : World) (hT : Terms pa w) (hi : inT t = true) :
    Calls Tryd.prog 14 #[.int .i64 t] w fun e w' => ∃ v, e = .returned v ∧ HasInts w.heap.size w' v (papersOf t) ∧ Below w.heap.size w w' := by
  have H27 := Lib.hid (of_any pa t w hT)
  obtain ⟨hl1, hl2⟩ := papers_len t hi
  have hsl : sliceOf pa t = .slice (some (pa t.toNat)) (papersOf t).length (papersOf t).length := by unfold sliceOf; rw [if_pos hi]
  have hk : t.toNat < 8 := by have := (inT_iff t).1 hi; omega
  have htk : ((t.toNat : Nat) : Int) = t := by have := (inT_iff t).1 hi; omega
  have hc : ∀ (w1 : World) (o : Obj), Below w.heap.size w w1 → ∀ j u, (ints (papersOf t))[j]? = some u → (w1.alloc o).cell? ((pa t.toNat).add j) = some u := by
    intro w1 o hb j u hu
    have hlow := hT.low _ hk
    rw [World.cell?_alloc_lt w1 _ _ (by rw [add_block]; exact Nat.lt_of_lt_of_le hlow hb.size), hb.cell (by rw [add_block]; exact hlow)]
    unfold ints at hu
    rw [List.getElem?_map] at hu
    cases hq : (papersOf t)[j]? with
    | none => rw [hq] at hu; cases hu
    | some z =>
      rw [hq] at hu
      simp only [Option.map_some, Option.some.injEq] at hu
      rw [← hu]
      exact hT.cells _ hk j z (by rw [htk]; exact hq)
  have hlow : ∀ (w1 : World) (o : Obj), Below w.heap.size w w1 → (pa t.toNat).block < (w1.alloc o).heap.size := by
    intro w1 o hb
    have := hT.low _ hk
    have := hb.size
    simp; omega
  have HC := Lib.hid hc
  have HL := Lib.hid hlow
  have HS := Lib.hid hsl
  clear hc hlow hsl htk hT
  generalize hpp : papersOf t = zs at *
  clear hpp
  go_enter Tryd.func14, Tryd.ntmps14
  go_wp2_with (first
    | (go_at_call 27; refine (H27.out).mono ?_; rintro e w1 ⟨a, l, c, hs, rfl, hb⟩; rw [HS.out] at hs; injection hs with hs1 hs2 hs3; subst hs1; subst hs2; subst hs3)
    | (go_at_call 28; refine (clone_some _ zs _ (by omega) (HL.out _ _ hb) (HC.out _ _ hb)).mono ?_; rintro e w2 ⟨v, rfl, hown, hb2⟩))
  go_ret
  refine ⟨v, rfl, HasInts.of_own hown (by omega) (by have := hb.size; simp; omega), ?_⟩
  exact (hb.alloc hb.size _).trans (hb2.mono (by have := hb.size; simp; omega))

set_option maxHeartbeats 400000 in
theorem needs_out (pa : Nat → Addr) (t : Int) (w : World) (hT : Terms pa w) (hi : inT t = false) :
    Calls Tryd.prog 14 #[.int .i64 t] w fun e w' => e = .returned (.slice none 0 0) ∧ Below w.heap.size w w' := by
  have H27 := Lib.hid (of_any pa t w hT)
  have HS := Lib.hid (show sliceOf pa t = .slice none 0 0 by unfold sliceOf; rw [if_neg (by rw [hi]; decide)])
  clear hT hi
  go_enter Tryd.func14, Tryd.ntmps14
  go_wp2_with (first
    | (go_at_call 27; refine (H27.out).mono ?_; rintro e w1 ⟨a, l, c, hs, rfl, hb⟩; rw [HS.out] at hs; injection hs with hs1 hs2 hs3; subst hs1; subst hs2; subst hs3)
    | (go_at_call 28; refine (clone_nil _).mono ?_; rintro e w2 ⟨rfl, hb2⟩))
  go_ret
  exact ⟨rfl, (hb.alloc hb.size _).trans (hb2.mono (by have := hb.size; simp; omega))⟩
end Go.Proofs.YtlmbdpncbmfopaaDoor
