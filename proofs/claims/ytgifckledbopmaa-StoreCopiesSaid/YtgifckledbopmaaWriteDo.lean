/- The walk of what Write hands to the fuse: the text is appended to the store's writes. -/
import Derived.Test.YtgifckledbopmaaStore
namespace Go.Proofs.Ytgifckledbopmaa
open Go.RowKit

theorem write_fin {w w1 : World} {g : Nat} {v : Value} {S : Sto} {t : ByteArray} {r' cap' : Nat} {o : Obj} (h : StoreAt w g v S) (hl : S.L.length < 4096)
    (hrow : RowAt w1 9 (.slice (some ⟨r', 0, none⟩) ((strsV S.L).length + 1) cap') (strsV S.L ++ [.string t])) (hgrow : ((w.alloc o).drew).grownBy w1 v.ownBlock) (hat : v.ownBlock = some r' ∨ r' = ((w.alloc o).drew).heap.size) :
    ∃ v', StoreAt (w1.setCell ⟨g, 0, none⟩ (.slice (some ⟨r', 0, none⟩) ((strsV S.L).length + 1) cap')) g v' { S with L := S.L ++ [t] } ∧ Kept (mine g v) w (w1.setCell ⟨g, 0, none⟩ (.slice (some ⟨r', 0, none⟩) ((strsV S.L).length + 1) cap')) ∧
      (∀ k, v'.ownBlock = some k → v.ownBlock = some k ∨ w.heap.size ≤ k) := by
  have hg := h.lt
  have ho : ∀ k, r' = k → v.ownBlock = some k ∨ w.heap.size ≤ k := by
    rintro k rfl
    rcases hat with h1 | h1
    · exact .inl h1
    · right; rw [h1]; simp
  have hne : (Value.slice (some ⟨r', 0, none⟩) ((strsV S.L).length + 1) cap').ownBlock ≠ some g := by
    intro e
    have e : r' = g := by simpa [Value.ownBlock] using e
    rcases ho _ e with h1 | h1
    · exact h.apart h1
    · omega
  have hs : StoreAt ((w.alloc o).drew) g v S := (h.alloc o).drew
  have hcells : w1.heap[g]? = some (.cells #[v, .int .i64 S.last, .int .i64 S.fuse, .bool S.down] 55 (0, 0)) := (hgrow.block g hs.lt (fun e => h.apart e.symm)).trans hs.cells
  refine ⟨_, ⟨set_block hcells 0 _, row_set (by simpa [strsV] using hrow) hne _ _, hne, by simp; omega, by have := h.le; simp; omega, h.fuse⟩, ?_, fun k hk => ho k (by simpa [Value.ownBlock] using hk)⟩
  exact (((Kept.refl _ w).alloc o).drew.grown hgrow (fun k hk => .inl (.inr hk))).setCell (.inl (.inl rfl)) _

set_option maxHeartbeats 2000000 in
/-- What Write hands to the fuse: the text is appended. -/
theorem write_do (w : World) (c d g : Nat) (v : Value) (S : Sto) (t : ByteArray) (h : StoreAt w g v S) (hl : S.L.length < 4096) (hvc : v.ownBlock ≠ some c) (hc : w.cell? ⟨c, 0, none⟩ = some (.pointer (some ⟨g, 0, none⟩))) (hd : w.cell? ⟨d, 0, none⟩ = some (.string t)) :
    Calls Try.prog 26 #[.pointer (some ⟨c, 0, none⟩), .pointer (some ⟨d, 0, none⟩)] w fun e w' => e = .returned (.tuple #[]) ∧ ∃ v', StoreAt w' g v' { S with L := S.L ++ [t] } ∧ Kept (mine g v) w w' ∧ (∀ k, v'.ownBlock = some k → v.ownBlock = some k ∨ w.heap.size ≤ k) := by
  obtain ⟨i0, hi0, hz0, hz1, hz2⟩ := info_parts info9
  obtain ⟨c0, c1, c2, c3⟩ := h.cell
  have hf := h.frozen 0
  have hglt := h.lt
  have hclt : c < w.heap.size := World.block_lt_of_cell? w _ hc
  have hdlt : d < w.heap.size := World.block_lt_of_cell? w _ hd
  have HA := Lib.hid h.apart
  have HS := Lib.hid h
  have HR := Lib.hid h.row
  have HV := Lib.hid hvc
  clear h c1 c2 c3 hvc
  go_enter Try.func26, Try.ntmps26
  go_wp2
  go_region_law ((refine step_append_row _ (by rfl) _ _ _ (by rfl) 9 i0 _ 16 Try.underlying22 hi0 hz0 hz1 hz2 rfl v (strsV S.L) (by rfl) (HR.out.keep fun k hk => Below.heap_alloc w _ k (HR.out.lt k hk)) ⟨w.heap.size, 0, none⟩ 1 (.string t) (by rfl) (by simp [Addr.add]) rfl (by simp [strsV, maxLen]; omega) (by simp [strsV]; omega) ?_; intro r' cap' w1 hrow1 hgrow hat; have hg1 : w1.cell? ⟨g, 0, none⟩ = some v := (hgrow.cell_far ⟨g, 0, none⟩ (by simp; omega) (fun e => HA.out e.symm)).trans (((HS.out.alloc _).drew).cell.1); have hg2 : w1.frozen? ⟨g, 0, none⟩ = false := (hgrow.frozen_far ⟨g, 0, none⟩ (by simp; omega) (fun e => HA.out e.symm)).trans (((HS.out.alloc _).drew).frozen 0); have hg3 : w1.cell? ⟨c, 0, none⟩ = some (.pointer (some ⟨g, 0, none⟩)) := (hgrow.cell_far ⟨c, 0, none⟩ (by simp; omega) (fun e => HV.out e.symm)).trans ((World.cell?_alloc_lt w _ _ hclt).trans hc)))
  all_goals
    go_end0
    exact ⟨rfl, write_fin HS.out hl hrow1 hgrow hat⟩
end Go.Proofs.Ytgifckledbopmaa
