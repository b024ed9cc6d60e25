/- The walks of the store's methods: what each call returns, and how the store stands behind it. -/
import Derived.Test.YtgifckledbopmaaRow
import Derived.Outline
import Derived.BigQuiet
import Derived.BigRegion
import Derived.Deep.QuietTactic
import Derived.Handy
import Derived.WalkSpells
namespace Go.Proofs.Ytgifckledbopmaa
open Go.RowKit

/-- Of what was there, all but some blocks is as it was. -/
structure Kept (X : Nat → Prop) (w w' : World) : Prop where
  os : w'.os = w.os
  tape : w'.tape = w.tape
  output : w'.output = w.output
  size : w.heap.size ≤ w'.heap.size
  block : ∀ k, k < w.heap.size → ¬ X k → w'.heap[k]? = w.heap[k]?

theorem Kept.refl (X : Nat → Prop) (w : World) : Kept X w w := ⟨rfl, rfl, rfl, Nat.le_refl _, fun _ _ _ => rfl⟩
theorem Kept.trans {X : Nat → Prop} {a b c : World} (h : Kept X a b) (k : Kept X b c) : Kept X a c :=
  ⟨k.os.trans h.os, k.tape.trans h.tape, k.output.trans h.output, Nat.le_trans h.size k.size, fun i hi hx => (k.block i (Nat.lt_of_lt_of_le hi h.size) hx).trans (h.block i hi hx)⟩
theorem Kept.mono {X Y : Nat → Prop} {a b : World} (h : Kept X a b) (hxy : ∀ k, k < a.heap.size → X k → Y k) : Kept Y a b :=
  ⟨h.os, h.tape, h.output, h.size, fun i hi hy => h.block i hi (fun hx => hy (hxy i hi hx))⟩
theorem Kept.drew {X : Nat → Prop} {a b : World} (h : Kept X a b) : Kept X a b.drew := ⟨h.os, h.tape, h.output, h.size, h.block⟩
theorem Kept.drewN {X : Nat → Prop} {a b : World} (h : Kept X a b) (n : Nat) : Kept X a (b.drewN n) := ⟨h.os, h.tape, h.output, h.size, h.block⟩
theorem Kept.alloc {X : Nat → Prop} {a b : World} (h : Kept X a b) (o : Obj) : Kept X a (b.alloc o) :=
  h.trans ⟨rfl, rfl, rfl, by simp, fun k hk _ => Below.heap_alloc b o k hk⟩
theorem Kept.setCell {X : Nat → Prop} {a b : World} (h : Kept X a b) {p : Addr} (hp : X p.block ∨ a.heap.size ≤ p.block) (u : Value) : Kept X a (b.setCell p u) :=
  ⟨h.os, h.tape, h.output, by simpa [World.setCell] using h.size, fun k hk hx => (Below.heap_setCell b p u k (by rintro rfl; rcases hp with hp | hp; exact hx hp; omega)).trans (h.block k hk hx)⟩
theorem Kept.grown {X : Nat → Prop} {a b c : World} {row : Option Nat} (h : Kept X a b) (hg : b.grownBy c row) (hr : ∀ k, row = some k → X k ∨ a.heap.size ≤ k) : Kept X a c :=
  ⟨hg.os.trans h.os, hg.tape.trans h.tape, hg.output.trans h.output, Nat.le_trans h.size hg.size, fun k hk hx => (hg.block k (Nat.lt_of_lt_of_le hk h.size) (fun e => by rcases hr k e.symm with h1 | h1; exact hx h1; omega)).trans (h.block k hk hx)⟩
theorem Kept.below {X : Nat → Prop} {B : Nat} {w0 a b : World} (h : Below B w0 a) (k : Kept X a b) (hX : ∀ i, X i → B ≤ i) (hB : B ≤ a.heap.size) : Below B w0 b :=
  h.trans ⟨k.os, k.tape, k.output, k.size, fun i hi => k.block i (by omega) (fun hx => by have := hX i hx; omega)⟩

/-- How a store stands: its writes, how many last, its fuse, whether it is down. -/
structure Sto where
  L : List ByteArray
  last : Nat
  fuse : Int
  down : Bool

def strsV (L : List ByteArray) : List Value := L.map Value.string

/-- A store in memory: its four cells, and the array of its writes. -/
structure StoreAt (w : World) (g : Nat) (v : Value) (S : Sto) : Prop where
  cells : w.heap[g]? = some (.cells #[v, .int .i64 S.last, .int .i64 S.fuse, .bool S.down] 55 (0, 0))
  row : RowAt w 9 v (strsV S.L)
  apart : v.ownBlock ≠ some g
  len : S.L.length ≤ 4096
  le : S.last ≤ S.L.length
  fuse : -1 ≤ S.fuse ∧ S.fuse ≤ 9223372036854775807

theorem StoreAt.lt {w : World} {g : Nat} {v : Value} {S : Sto} (h : StoreAt w g v S) : g < w.heap.size := heap_lt h.cells
theorem StoreAt.cell {w : World} {g : Nat} {v : Value} {S : Sto} (h : StoreAt w g v S) :
    w.cell? ⟨g, 0, none⟩ = some v ∧ w.cell? ⟨g, 1, none⟩ = some (.int .i64 S.last) ∧ w.cell? ⟨g, 2, none⟩ = some (.int .i64 S.fuse) ∧ w.cell? ⟨g, 3, none⟩ = some (.bool S.down) := by
  refine ⟨?_, ?_, ?_, ?_⟩ <;> (rw [cell_of_row w g _ _ _ _ h.cells]; rfl)
theorem StoreAt.frozen {w : World} {g : Nat} {v : Value} {S : Sto} (h : StoreAt w g v S) (i : Nat) : w.frozen? ⟨g, i, none⟩ = false := by
  have := h.cells
  simp [World.frozen?, this]
theorem StoreAt.form {w : World} {g : Nat} {v : Value} {S : Sto} (h : StoreAt w g v S) : ∃ a cap, v = .slice a S.L.length cap ∧ S.L.length ≤ cap ∧ cap ≤ maxLen ∧ (0 < S.L.length → ∃ r, a = some ⟨r, 0, none⟩) := by
  have := h.row.form
  simpa [strsV] using this
/-- What a step may change: the store's cells, and the array of its writes. -/
def mine (g : Nat) (v : Value) : Nat → Prop := fun k => k = g ∨ v.ownBlock = some k

theorem StoreAt.keep {w w' : World} {g : Nat} {v : Value} {S : Sto} {X : Nat → Prop} (h : StoreAt w g v S) (hk : Kept X w w') (hX : ∀ k, mine g v k → ¬ X k) : StoreAt w' g v S :=
  ⟨(hk.block g h.lt (hX g (.inl rfl))).trans h.cells, h.row.keep fun k hv => hk.block k (h.row.lt k hv) (hX k (.inr hv)), h.apart, h.len, h.le, h.fuse⟩

theorem info9 : (Try.prog.info? 9).map (fun i => (i.zero, i.size, i.bytes)) = some (some (.string { data := #[] }), 1, 16) := by kernel_rfl

set_option maxHeartbeats 400000 in
theorem len_any (w : World) (g : Nat) (v : Value) (S : Sto) (h : StoreAt w g v S) : Calls Try.prog 16 #[.pointer (some ⟨g, 0, none⟩)] w fun e w' => e = .returned (.int .i64 S.L.length) ∧ w = w' := by
  obtain ⟨c0, c1, c2, c3⟩ := h.cell
  obtain ⟨a, cap, rfl, _, _, _⟩ := h.form
  clear h c1 c2 c3
  go_enter Try.func16, Try.ntmps16
  go_wp2
  go_ret
  exact ⟨rfl, rfl⟩
set_option maxHeartbeats 400000 in
theorem lasting_any (w : World) (g : Nat) (v : Value) (S : Sto) (h : StoreAt w g v S) : Calls Try.prog 14 #[.pointer (some ⟨g, 0, none⟩)] w fun e w' => e = .returned (.int .i64 S.last) ∧ w = w' := by
  obtain ⟨c0, c1, c2, c3⟩ := h.cell
  clear h c0 c2 c3
  go_enter Try.func14, Try.ntmps14
  go_wp2
  go_ret
  exact ⟨rfl, rfl⟩
set_option maxHeartbeats 400000 in
theorem down_any (w : World) (g : Nat) (v : Value) (S : Sto) (h : StoreAt w g v S) : Calls Try.prog 23 #[.pointer (some ⟨g, 0, none⟩)] w fun e w' => e = .returned (.bool S.down) ∧ w = w' := by
  obtain ⟨c0, c1, c2, c3⟩ := h.cell
  clear h c0 c2 c1
  go_enter Try.func23, Try.ntmps23
  go_wp2
  go_ret
  exact ⟨rfl, rfl⟩

set_option maxHeartbeats 400000 in
theorem new_any (w : World) : Calls Try.prog 11 #[] w fun e w' => ∃ g, e = .returned (.pointer (some ⟨g, 0, none⟩)) ∧ w.heap.size ≤ g ∧ StoreAt w' g (.slice none 0 0) ⟨[], 0, -1, false⟩ ∧ Below w.heap.size w w' := by
  go_enter Try.func11, Try.ntmps11
  go_wp2
  go_ret
  exact ⟨w.heap.size, rfl, Nat.le_refl _, ⟨heap_alloc_new w _, .inl ⟨rfl, rfl⟩, by simp [Value.ownBlock], by simp, Nat.le_refl _, by simp⟩, (Below.refl _ _).alloc (Nat.le_refl _) _⟩
theorem set_block {w : World} {g : Nat} {cs : Array Value} {t : TypeId} (h : w.heap[g]? = some (.cells cs t (0, 0))) (j : Nat) (u : Value) :
    (w.setCell ⟨g, j, none⟩ u).heap[g]? = some (.cells (cs.setIfInBounds j u) t (0, 0)) := heap_setCell_same w g j cs t u h
theorem row_set {w : World} {e : TypeId} {v : Value} {L : List Value} (h : RowAt w e v L) {g : Nat} (hne : v.ownBlock ≠ some g) (j : Nat) (u : Value) : RowAt (w.setCell ⟨g, j, none⟩ u) e v L :=
  h.keep fun k hk => Below.heap_setCell w ⟨g, j, none⟩ u k (fun e => hne (by rw [hk, e]))
theorem StoreAt.setLast {w : World} {g : Nat} {v : Value} {S : Sto} (h : StoreAt w g v S) (n : Nat) (hn : n ≤ S.L.length) : StoreAt (w.setCell ⟨g, 1, none⟩ (.int .i64 n)) g v { S with last := n } :=
  ⟨set_block h.cells 1 _, row_set h.row h.apart _ _, h.apart, h.len, hn, h.fuse⟩
theorem StoreAt.setFuse {w : World} {g : Nat} {v : Value} {S : Sto} (h : StoreAt w g v S) (n : Int) (h1 : -1 ≤ n) (h2 : n ≤ 9223372036854775807) : StoreAt (w.setCell ⟨g, 2, none⟩ (.int .i64 n)) g v { S with fuse := n } :=
  ⟨set_block h.cells 2 _, row_set h.row h.apart _ _, h.apart, h.len, h.le, ⟨h1, h2⟩⟩
theorem StoreAt.setDown {w : World} {g : Nat} {v : Value} {S : Sto} (h : StoreAt w g v S) (b : Bool) : StoreAt (w.setCell ⟨g, 3, none⟩ (.bool b)) g v { S with down := b } :=
  ⟨set_block h.cells 3 _, row_set h.row h.apart _ _, h.apart, h.len, h.le, h.fuse⟩
theorem StoreAt.setRow {w : World} {g : Nat} {v v' : Value} {S : Sto} (h : StoreAt w g v S) {L : List ByteArray} (hr : RowAt w 9 v' (strsV L)) (ha : v'.ownBlock ≠ some g) (hl : L.length ≤ 4096) (hle : S.last ≤ L.length) : StoreAt (w.setCell ⟨g, 0, none⟩ v') g v' { S with L := L } :=
  ⟨set_block h.cells 0 _, row_set hr ha _ _, ha, hl, hle, h.fuse⟩
theorem StoreAt.drew {w : World} {g : Nat} {v : Value} {S : Sto} (h : StoreAt w g v S) : StoreAt w.drew g v S := ⟨h.cells, h.row, h.apart, h.len, h.le, h.fuse⟩
theorem StoreAt.drewN {w : World} {g : Nat} {v : Value} {S : Sto} (h : StoreAt w g v S) (n : Nat) : StoreAt (w.drewN n) g v S := ⟨h.cells, h.row, h.apart, h.len, h.le, h.fuse⟩
theorem StoreAt.alloc {w : World} {g : Nat} {v : Value} {S : Sto} (h : StoreAt w g v S) (o : Obj) : StoreAt (w.alloc o) g v S :=
  h.keep ((Kept.refl (fun _ => False) w).alloc o) (fun _ _ => id)

set_option maxHeartbeats 1000000 in
/-- What Sync hands to the fuse: all last. -/
theorem sync_do (w : World) (c g : Nat) (v : Value) (S : Sto) (h : StoreAt w g v S) (hc : w.cell? ⟨c, 0, none⟩ = some (.pointer (some ⟨g, 0, none⟩))) :
    Calls Try.prog 27 #[.pointer (some ⟨c, 0, none⟩)] w fun e w' => e = .returned (.tuple #[]) ∧ StoreAt w' g v { S with last := S.L.length } ∧ Kept (mine g v) w w' := by
  obtain ⟨c0, c1, c2, c3⟩ := h.cell
  have hf := h.frozen 1
  obtain ⟨a, cap, rfl, hl1, hl2, _⟩ := h.form
  have HS := Lib.hid h
  clear h c2 c3
  unfold maxLen at hl2
  go_enter Try.func27, Try.ntmps27
  go_wp2
  go_region
  all_goals
    go_end0
    exact ⟨rfl, (HS.out.setLast _ (Nat.le_refl _)).drew, ((Kept.refl _ w).setCell (.inl (.inl rfl)) _).drew⟩

theorem info22 : (Try.prog.info? 22).map (fun i => (i.zero, i.size, i.bytes)) = some (some (.slice none 0 0), 1, 24) := by kernel_rfl

end Go.Proofs.Ytgifckledbopmaa
