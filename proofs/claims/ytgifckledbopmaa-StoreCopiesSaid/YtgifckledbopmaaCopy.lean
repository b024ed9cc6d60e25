/- The walks of slices.Clone and Copy: a copy stands as the store does, apart from it. -/
import Derived.Test.YtgifckledbopmaaPlays
namespace Go.Proofs.Ytgifckledbopmaa
open Go.RowKit

theorem slice_nil (W : World) (n c : Nat) : (binOp .eql 22 (.slice none n c) (.slice none 0 0)).run Try.prog W = .ok (.bool true) W := by kernel_rfl
theorem slice_some (W : World) (a : Addr) (n c : Nat) : (binOp .eql 22 (.slice (some a) n c) (.slice none 0 0)).run Try.prog W = .ok (.bool false) W := by kernel_rfl

/-- What Clone leaves. -/
def CloneAfter (w : World) (L : List Value) (e : Ending) (w' : World) : Prop :=
  ∃ a c, e = .returned (.slice a L.length c) ∧ Below w.heap.size w w' ∧ RowAt w' 9 (.slice a L.length c) L ∧ ∀ k, (Value.slice a L.length c).ownBlock = some k → w.heap.size ≤ k

set_option maxRecDepth 100000 in
set_option maxHeartbeats 2000000 in
theorem clone_any (w : World) (a : Option Addr) (n c : Nat) (L : List Value) (hn : n = L.length) (h4 : n ≤ 4096) (h : RowAt w 9 (.slice a n c) L) :
    Calls Try.prog 33 #[.slice a n c] w (CloneAfter w L) := by
  obtain ⟨i0, hi0, hz0, hz1, hz2⟩ := info_parts info9
  have HR := Lib.hid h
  cases a with
  | none =>
    have hL : L = [] := by
      rcases h with ⟨_, h⟩ | ⟨r, cap, cur, hv, _⟩
      · exact h
      · cases hv
    subst hL
    subst hn
    clear h
    have hnil := fun W => slice_nil W 0 c
    go_enter Try.func33, Try.ntmps33
    go_wp2_with fail
    go_ret
    exact ⟨none, 0, rfl, Below.refl _ _, .inl ⟨rfl, rfl⟩, fun k hk => by simp [Value.ownBlock] at hk⟩
  | some ad =>
    clear h
    subst hn
    have hnil := fun W => slice_some W ad L.length c
    go_enter Try.func33, Try.ntmps33
    go_wp2_with (first
      | (at_builtin; refine wpList_append_copy _ rfl _ _ 22 rfl 9 i0 _ 16 Try.underlying22 hi0 hz0 hz1 hz2 rfl w.heap.size rfl (at_top (by simp)) (.slice (some ad) L.length c) rfl L (HR.out.below ((Below.refl _ _).alloc (Nat.le_refl _) _)) (by simp only [maxLen]; omega) (by omega) ?_; intro ra cap1 w2 hrow2 hgrow2 hat2)
      | fail)
    go_ret
    refine ⟨ra, cap1, rfl, ((Below.refl _ _).alloc (Nat.le_refl _) _).grown hgrow2 (by simp) (by intro k hk; injection hk with hk; omega), hrow2, fun k hk => ?_⟩
    rcases hat2 with h | h <;> (rw [h] at hk; injection hk with hk)
    · omega
    · simp at hk; omega

/-- What Copy leaves. -/
def CopyAfter (w : World) (S : Sto) (e : Ending) (w' : World) : Prop :=
  ∃ c u, e = .returned (.pointer (some ⟨c, 0, none⟩)) ∧ Below w.heap.size w w' ∧ w.heap.size ≤ c ∧ StoreAt w' c u S ∧ ∀ k, u.ownBlock = some k → w.heap.size ≤ k

set_option maxRecDepth 100000 in
set_option maxHeartbeats 2000000 in
theorem copy_any (w : World) (g : Nat) (v : Value) (S : Sto) (h : StoreAt w g v S) :
    Calls Try.prog 24 #[.pointer (some ⟨g, 0, none⟩)] w (CopyAfter w S) := by
  obtain ⟨c0, c1, c2, c3⟩ := h.cell
  have hglt := h.lt
  obtain ⟨a, cap, rfl, hl1, hl2, hl3⟩ := h.form
  have HS := Lib.hid h
  have hlen := h.len
  clear h hl3
  go_enter Try.func24, Try.ntmps24
  go_wp2_with fail
  refine (clone_any _ a S.L.length cap (strsV S.L) (by simp [strsV]) hlen ((HS.out.alloc _).row)).mono ?_
  rintro e w1 ⟨a', c', rfl, hb, hr, ho⟩
  have hsl : (strsV S.L).length = S.L.length := by simp [strsV]
  rw [hsl] at hr ho
  rw [hsl]
  have HC : Hid (w1.heap[w.heap.size]? = some (.cells #[.slice a S.L.length cap, .int .i64 S.last, .int .i64 S.fuse, .bool S.down] 55 (0, 0))) := (hb.block w.heap.size (by simp)).trans (at_top rfl)
  obtain ⟨d0, d1, d2, d3, d4⟩ := blk4' HC.out
  have HB := Lib.hid hb
  have HR := Lib.hid hr
  have HO := Lib.hid ho
  clear hb hr ho
  go_wp2_with fail
  go_ret
  have hb := HB.out
  have hc := HC.out
  have hw : Below w.heap.size w w1 := ((Below.refl _ _).alloc (Nat.le_refl _) _).trans (hb.mono (by simp))
  have hset := set_block hc 0 (.slice a' S.L.length c')
  have hno : (Value.slice a' S.L.length c').ownBlock ≠ some w.heap.size := by
    intro e
    have := HO.out _ e
    simp at this
    omega
  refine ⟨w.heap.size, .slice a' S.L.length c', rfl, hw.setCell (Nat.le_refl _) _, Nat.le_refl _, ⟨hset, row_set HR.out hno _ _, hno, HS.out.len, HS.out.le, HS.out.fuse⟩, fun k hk => ?_⟩
  have := HO.out k hk
  simp at this
  omega
end Go.Proofs.Ytgifckledbopmaa
