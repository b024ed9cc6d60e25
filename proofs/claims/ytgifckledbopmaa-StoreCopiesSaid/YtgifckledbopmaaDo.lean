/- The walk of do: one call of the store and of the document's: both answer the same, both stand alike behind it. -/
import Derived.Test.YtgifckledbopmaaAlike
namespace Go.Proofs.Ytgifckledbopmaa
open Go.RowKit

/-- A store, and the document's of the same state, apart in memory. -/
structure Pair (w : World) (g : Nat) (v lv : Value) (S : Sto) : Prop where
  store : StoreAt w g v S
  ref : RefAt w lv S
  apart : ∀ k, lv.ownBlock = some k → ¬ mine g v k

/-- The state behind a call. -/
def Sto.step (S : Sto) (kind n : Int) (t : ByteArray) : Sto :=
  if kind = 0 then (S.write t).2 else if kind = 1 then S.sync.2 else if kind = 2 then S.crash n else if kind = 3 then S.arm n else S

/-- What a call of both leaves. -/
def DoAfter (w : World) (g : Nat) (v lv : Value) (S' : Sto) (lv' : Value) (w' : World) : Prop :=
  ∃ v', Pair w' g v' lv' S' ∧ Kept (mine g v) w w' ∧ (∀ k, v'.ownBlock = some k → v.ownBlock = some k ∨ w.heap.size ≤ k) ∧ ∀ k, lv'.ownBlock = some k → lv.ownBlock = some k ∨ w.heap.size ≤ k


theorem kept_below {w w' : World} (h : Below w.heap.size w w') (X : Nat → Prop) : Kept X w w' := ⟨h.os, h.tape, h.output, h.size, fun i hi _ => h.block i hi⟩

theorem do_fin {w W3 w1 w2 F : World} {g : Nat} {v lv lv' : Value} {S S' : Sto} (hp : Pair w g v lv S) (h3 : Below w.heap.size w W3) (hsz : w.heap.size + 3 ≤ W3.heap.size)
    (ha : After W3 g v S' w1) (hr : RAfter w1 lv S' lv' w2) (hF : Kept (fun k => w.heap.size ≤ k ∧ k < w.heap.size + 3 ∨ w2.heap.size ≤ k) w2 F) : DoAfter w g v lv S' lv' F := by
  obtain ⟨v', hs, hk, hv⟩ := ha
  obtain ⟨r1, r2, r3⟩ := hr
  have hlt := hp.ref.row.lt
  have hg := hp.store.lt
  have hs1 := hk.size
  have hs2 := r2.size
  have hlt1 := hs.row.lt
  have hv' : ∀ k, v'.ownBlock = some k → v.ownBlock = some k ∨ w.heap.size + 3 ≤ k := fun k h => (hv k h).imp id (by omega)
  have hvl := hp.store.row.lt
  have hlv' : ∀ k, lv'.ownBlock = some k → lv.ownBlock = some k ∨ w1.heap.size ≤ k := r3
  have old : ∀ k, (lv'.ownBlock = some k ∨ v'.ownBlock = some k ∨ k = g) → ¬ (w.heap.size ≤ k ∧ k < w.heap.size + 3) := by
    rintro k (h | h | rfl)
    · rcases hlv' k h with h | h
      · have := hlt k h; omega
      · omega
    · rcases hv' k h with h | h
      · have := hvl k h; omega
      · omega
    · omega
  refine ⟨v', ⟨?_, ?_, ?_⟩, ?_, ?_, ?_⟩
  · have h2 : StoreAt w2 g v' S' := hs.keep (kept_below r2 (fun _ => False)) (fun _ _ => id)
    refine h2.keep hF fun k hm hx => ?_
    have hk2 : k < w2.heap.size := by
      rcases hm with rfl | hm
      · exact h2.lt
      · exact h2.row.lt k hm
    rcases hx with hx | hx
    · exact old k (hm.elim (fun e => .inr (.inr e)) (fun e => .inr (.inl e))) hx
    · omega
  · refine ⟨r1.row.keep fun k hk => hF.block k (r1.row.lt k hk) ?_, r1.len, r1.le, r1.fuse⟩
    rintro (hx | hx)
    · exact old k (.inl hk) hx
    · have := r1.row.lt k hk; omega
  · intro k hk hm
    rcases hlv' k hk with h | h
    · rcases hm with rfl | hm
      · exact hp.apart _ h (.inl rfl)
      · rcases hv' k hm with h5 | h5
        · exact hp.apart _ h (.inr h5)
        · have := hlt k h; omega
    · rcases hm with rfl | hm
      · omega
      · have := hlt1 k hm; omega
  · refine ⟨hF.os.trans (r2.os.trans (hk.os.trans h3.os)), hF.tape.trans (r2.tape.trans (hk.tape.trans h3.tape)), hF.output.trans (r2.output.trans (hk.output.trans h3.output)), by have := hF.size; omega, fun k hk1 hx => ?_⟩
    rw [hF.block k (by omega) (by omega), r2.block k (by omega), hk.block k (by omega) hx, h3.block k hk1]
  · exact fun k h => (hv' k h).imp id (by omega)
  · exact fun k h => (hlv' k h).imp id (by omega)

theorem blk3 {w1 : World} {b : Nat} {x0 x1 x2 : Value} {t : TypeId} (h1 : w1.heap[b]? = some (.cells #[x0, x1, x2] t (0, 0))) :
    w1.cell? ⟨b, 0, none⟩ = some x0 ∧ w1.cell? ⟨b, 1, none⟩ = some x1 ∧ w1.cell? ⟨b, 2, none⟩ = some x2 := by
  refine ⟨?_, ?_, ?_⟩ <;> (rw [cell_of_row w1 b _ _ _ _ h1]; rfl)
theorem blk4' {w1 : World} {b : Nat} {x0 x1 x2 x3 : Value} {t : TypeId} (h : w1.heap[b]? = some (.cells #[x0, x1, x2, x3] t (0, 0))) :
    w1.cell? ⟨b, 0, none⟩ = some x0 ∧ w1.cell? ⟨b, 1, none⟩ = some x1 ∧ w1.cell? ⟨b, 2, none⟩ = some x2 ∧ w1.cell? ⟨b, 3, none⟩ = some x3 ∧ ∀ j, w1.frozen? ⟨b, j, none⟩ = false :=
  blk4 (Below.refl (b + 1) w1) (Nat.lt_succ_self _) h

theorem blk4a {w1 : World} {b : Nat} {x0 x1 x2 x3 : Value} {t : TypeId} (h : w1.heap[b]? = some (.cells #[x0, x1, x2, x3] t (0, 0))) :
    (∀ o, (w1.alloc o).cell? ⟨b, 0, none⟩ = some x0) ∧ (∀ o, (w1.alloc o).cell? ⟨b, 1, none⟩ = some x1) ∧ (∀ o, (w1.alloc o).cell? ⟨b, 2, none⟩ = some x2) ∧ (∀ o, (w1.alloc o).cell? ⟨b, 3, none⟩ = some x3) ∧ ∀ o j, (w1.alloc o).frozen? ⟨b, j, none⟩ = false := by
  have hb := heap_lt h
  have H := fun o => blk4' ((Below.heap_alloc w1 o b hb).trans h)
  exact ⟨fun o => (H o).1, fun o => (H o).2.1, fun o => (H o).2.2.1, fun o => (H o).2.2.2.1, fun o => (H o).2.2.2.2⟩

/-- The three variables that the call lays. -/
abbrev lay3 (w : World) (lv : Value) (l f : Int) (d : Bool) (kind n : Int) (t : ByteArray) : World :=
  ((w.alloc (.cells #[lv, .int .i64 l, .int .i64 f, .bool d] 42)).alloc (.cells #[.int .i64 kind, .int .i64 n, .string t] 47)).alloc (.cells #[.slice none 0 0, .int .i64 0, .int .i64 0, .bool false] 42)

/-- The three variables stand. -/
structure Laid3 (b : Nat) (lv : Value) (l f : Int) (d : Bool) (kind n : Int) (t : ByteArray) (w : World) : Prop where
  h0 : w.heap[b]? = some (.cells #[lv, .int .i64 l, .int .i64 f, .bool d] 42 (0, 0))
  h1 : w.heap[b + 1]? = some (.cells #[.int .i64 kind, .int .i64 n, .string t] 47 (0, 0))
  h2 : w.heap[b + 1 + 1]? = some (.cells #[.slice none 0 0, .int .i64 0, .int .i64 0, .bool false] 42 (0, 0))
theorem lay3_laid (w : World) (lv : Value) (l f : Int) (d : Bool) (kind n : Int) (t : ByteArray) : Laid3 w.heap.size lv l f d kind n t (lay3 w lv l f d kind n t) := by
  refine ⟨?_, ?_, ?_⟩ <;> (unfold lay3; (repeat (first | (refine at_top ?_; simp; done) | refine (Below.heap_alloc _ _ _ (by (try simp); try omega)).trans ?_)))
theorem lay3_below (w : World) (lv : Value) (l f : Int) (d : Bool) (kind n : Int) (t : ByteArray) : Below w.heap.size w (lay3 w lv l f d kind n t) := by unfold lay3; (repeat (first | exact Below.refl _ _ | assumption | refine Below.drew ?_ | refine below_drewN ?_ _ | refine Below.alloc ?_ (by (try simp); try omega) _ | refine Below.setCell ?_ (by (try simp); try omega) _))
theorem lay3_size (w : World) (lv : Value) (l f : Int) (d : Bool) (kind n : Int) (t : ByteArray) : w.heap.size + 3 ≤ (lay3 w lv l f d kind n t).heap.size := by unfold lay3; simp
theorem Laid3.kept {b : Nat} {lv : Value} {l f : Int} {d : Bool} {kind n : Int} {t : ByteArray} {w w' : World} {X : Nat → Prop} (h : Laid3 b lv l f d kind n t w) (hk : Kept X w w') (hX : ∀ k, X k → k < b) : Laid3 b lv l f d kind n t w' :=
  ⟨(hk.block _ (heap_lt h.h0) (fun hx => by have := hX _ hx; omega)).trans h.h0, (hk.block _ (heap_lt h.h1) (fun hx => by have := hX _ hx; omega)).trans h.h1, (hk.block _ (heap_lt h.h2) (fun hx => by have := hX _ hx; omega)).trans h.h2⟩

theorem kept_lay {w : World} {o1 o2 o3 p1 p2 p3 : Obj} (X : Nat → Prop) : Kept (fun k => w.heap.size ≤ k ∧ k < w.heap.size + 3 ∨ X k) (((w.alloc o1).alloc o2).alloc o3) (((w.alloc p1).alloc p2).alloc p3) := by
  refine ⟨rfl, rfl, rfl, by simp, fun k hk hx => ?_⟩
  have hk' : k < w.heap.size := by
    simp at hk
    rcases Nat.lt_or_ge k w.heap.size with h | h
    · exact h
    · exact absurd (.inl ⟨h, by omega⟩) hx
  have H : ∀ o1 o2 o3, (((w.alloc o1).alloc o2).alloc o3).heap[k]? = w.heap[k]? := fun o1 o2 o3 => by
    rw [Below.heap_alloc _ _ _ (by simp; omega), Below.heap_alloc _ _ _ (by simp; omega), Below.heap_alloc _ _ _ hk']
  rw [H, H]
theorem Pair.mine_lt {w : World} {g : Nat} {v lv : Value} {S : Sto} (h : Pair w g v lv S) (k : Nat) (hk : mine g v k) : k < w.heap.size := by
  rcases hk with rfl | hk
  · exact h.store.lt
  · exact h.store.row.lt k hk

set_option maxRecDepth 100000 in
set_option maxHeartbeats 4000000 in
theorem do_write (w : World) (g : Nat) (v lv : Value) (S : Sto) (n : Int) (t : ByteArray) (ht : t.size ≤ maxLen) (hp : Pair w g v lv S) :
    Calls Try.prog 20 #[.pointer (some ⟨g, 0, none⟩), refV lv S, .agg #[.int .i64 0, .int .i64 n, .string t]] w fun e w' => ∃ lv', e = .returned (.tuple #[refV lv' (S.write t).2, .bool true]) ∧ DoAfter w g v lv (S.write t).2 lv' w' := by
  have HP := Lib.hid hp
  obtain ⟨a, c, rfl, _⟩ := hp.ref.form
  clear hp
  go_enter Try.func20, Try.ntmps20
  go_wp2_with fail
  refine (write_any _ g v S t ht (((HP.out.store.alloc _).alloc _).alloc _)).mono ?_
  rintro e w1 ⟨rfl, ha⟩
  have hL := (lay3_laid w (.slice a S.L.length c) S.last S.fuse S.down 0 n t)
  have hk1 : Kept (mine g v) (lay3 w (.slice a S.L.length c) S.last S.fuse S.down 0 n t) w1 := by
    obtain ⟨_, _, h, _⟩ := ha; exact h
  have hL1 := hL.kept hk1 HP.out.mine_lt
  obtain ⟨a0, a1, a2, a3, a4⟩ := blk4' hL1.h0
  obtain ⟨b0, b1, b2⟩ := blk3 hL1.h1
  have HA := Lib.hid ha
  have HL1 := Lib.hid hL1
  have HR1 : Hid (RefAt w1 (.slice a S.L.length c) S) := ⟨HP.out.ref.row.keep fun k hk => (hk1.block k (by have := HP.out.ref.row.lt k hk; simp; omega) (HP.out.apart k hk)).trans ((lay3_below w (.slice a S.L.length c) S.last S.fuse S.down 0 n t).block k (HP.out.ref.row.lt k hk)), HP.out.ref.len, HP.out.ref.le, HP.out.ref.fuse⟩
  have hs1 : w.heap.size + 3 ≤ w1.heap.size := by have := hk1.size; simp at this; omega
  clear ha hL hk1 hL1
  go_wp2_with fail
  refine (rwrite_any _ _ S t ht HR1.out).mono ?_
  rintro e w2 ⟨lv', rfl, hr⟩
  have hL2 := HL1.out.kept (kept_below hr.2.1 (fun _ => False)) (fun _ h => h.elim)
  obtain ⟨c0, c1, c2, c3, c4⟩ := blk4a hL2.h2
  have hs2 := hr.2.1.size
  have HRA := Lib.hid hr
  obtain ⟨a', c', rfl, _⟩ := hr.1.form
  clear hr hL2 a0 a1 a2 a3 a4 b0 b1 b2
  generalize hS' : (S.write t).2 = S' at *
  generalize (S.write t).1 = n' at *
  go_wp2_with fail
  refine bodyPost_ret (v := .tuple #[refV (.slice a' S'.L.length c') S', .bool true]) (by simp [results, Try.results20, go_sem, c0, c1, c2, c3]) rfl ?_
  subst hS'
  exact ⟨_, rfl, do_fin HP.out (lay3_below w (.slice a S.L.length c) S.last S.fuse S.down 0 n t) (lay3_size w _ _ _ _ _ _ _) HA.out HRA.out (by (repeat (first | exact Kept.refl _ _ | assumption | refine Kept.drew ?_ | refine Kept.drewN ?_ _ | refine Kept.alloc ?_ _ | refine Kept.setCell ?_ (by (try simp); try omega) _)))⟩
set_option maxRecDepth 100000 in
set_option maxHeartbeats 4000000 in
theorem do_sync (w : World) (g : Nat) (v lv : Value) (S : Sto) (n : Int) (t : ByteArray) (hp : Pair w g v lv S) :
    Calls Try.prog 20 #[.pointer (some ⟨g, 0, none⟩), refV lv S, .agg #[.int .i64 1, .int .i64 n, .string t]] w fun e w' => ∃ lv', e = .returned (.tuple #[refV lv' (S.sync).2, .bool true]) ∧ DoAfter w g v lv (S.sync).2 lv' w' := by
  have HP := Lib.hid hp
  obtain ⟨a, c, rfl, _⟩ := hp.ref.form
  clear hp
  go_enter Try.func20, Try.ntmps20
  go_wp2_with fail
  refine (sync_any _ g v S (((HP.out.store.alloc _).alloc _).alloc _)).mono ?_
  rintro e w1 ⟨rfl, ha⟩
  have hL := (lay3_laid w (.slice a S.L.length c) S.last S.fuse S.down 1 n t)
  have hk1 : Kept (mine g v) (lay3 w (.slice a S.L.length c) S.last S.fuse S.down 1 n t) w1 := by
    obtain ⟨_, _, h, _⟩ := ha; exact h
  have hL1 := hL.kept hk1 HP.out.mine_lt
  obtain ⟨a0, a1, a2, a3, a4⟩ := blk4' hL1.h0
  obtain ⟨b0, b1, b2⟩ := blk3 hL1.h1
  have HA := Lib.hid ha
  have HL1 := Lib.hid hL1
  have HR1 : Hid (RefAt w1 (.slice a S.L.length c) S) := ⟨HP.out.ref.row.keep fun k hk => (hk1.block k (by have := HP.out.ref.row.lt k hk; simp; omega) (HP.out.apart k hk)).trans ((lay3_below w (.slice a S.L.length c) S.last S.fuse S.down 1 n t).block k (HP.out.ref.row.lt k hk)), HP.out.ref.len, HP.out.ref.le, HP.out.ref.fuse⟩
  have hs1 : w.heap.size + 3 ≤ w1.heap.size := by have := hk1.size; simp at this; omega
  clear ha hL hk1 hL1
  go_wp2_with fail
  refine (rsync_any _ _ S HR1.out).mono ?_
  rintro e w2 ⟨rfl, hr⟩
  have hL2 := HL1.out.kept (kept_below hr.2.1 (fun _ => False)) (fun _ h => h.elim)
  obtain ⟨c0, c1, c2, c3, c4⟩ := blk4a hL2.h2
  have hs2 := hr.2.1.size
  have HRA := Lib.hid hr
  clear hr hL2 a0 a1 a2 a3 a4 b0 b1 b2
  generalize hS' : (S.sync).2 = S' at *
  generalize (S.sync).1 = n' at *
  go_wp2_with fail
  refine bodyPost_ret (v := .tuple #[refV (.slice a S.L.length c) S', .bool true]) (by simp [results, Try.results20, go_sem, c0, c1, c2, c3]) rfl ?_
  subst hS'
  exact ⟨_, rfl, do_fin HP.out (lay3_below w (.slice a S.L.length c) S.last S.fuse S.down 1 n t) (lay3_size w _ _ _ _ _ _ _) HA.out HRA.out (by (repeat (first | exact Kept.refl _ _ | assumption | refine Kept.drew ?_ | refine Kept.drewN ?_ _ | refine Kept.alloc ?_ _ | refine Kept.setCell ?_ (by (try simp); try omega) _)))⟩
set_option maxRecDepth 100000 in
set_option maxHeartbeats 4000000 in
theorem do_crash (w : World) (g : Nat) (v lv : Value) (S : Sto) (n : Int) (t : ByteArray) (hn : -9223372036854775808 ≤ n ∧ n ≤ 9223372036854775807) (hp : Pair w g v lv S) :
    Calls Try.prog 20 #[.pointer (some ⟨g, 0, none⟩), refV lv S, .agg #[.int .i64 2, .int .i64 n, .string t]] w fun e w' => ∃ lv', e = .returned (.tuple #[refV lv' (S.crash n), .bool true]) ∧ DoAfter w g v lv (S.crash n) lv' w' := by
  have HP := Lib.hid hp
  obtain ⟨a, c, rfl, _⟩ := hp.ref.form
  clear hp
  go_enter Try.func20, Try.ntmps20
  go_wp2_with fail
  refine (crash_any _ g v S n hn (((HP.out.store.alloc _).alloc _).alloc _)).mono ?_
  rintro e w1 ⟨rfl, ha⟩
  have hL := (lay3_laid w (.slice a S.L.length c) S.last S.fuse S.down 2 n t)
  have hk1 : Kept (mine g v) (lay3 w (.slice a S.L.length c) S.last S.fuse S.down 2 n t) w1 := by
    obtain ⟨_, _, h, _⟩ := ha; exact h
  have hL1 := hL.kept hk1 HP.out.mine_lt
  obtain ⟨a0, a1, a2, a3, a4⟩ := blk4' hL1.h0
  obtain ⟨b0, b1, b2⟩ := blk3 hL1.h1
  have HA := Lib.hid ha
  have HL1 := Lib.hid hL1
  have HR1 : Hid (RefAt w1 (.slice a S.L.length c) S) := ⟨HP.out.ref.row.keep fun k hk => (hk1.block k (by have := HP.out.ref.row.lt k hk; simp; omega) (HP.out.apart k hk)).trans ((lay3_below w (.slice a S.L.length c) S.last S.fuse S.down 2 n t).block k (HP.out.ref.row.lt k hk)), HP.out.ref.len, HP.out.ref.le, HP.out.ref.fuse⟩
  have hs1 : w.heap.size + 3 ≤ w1.heap.size := by have := hk1.size; simp at this; omega
  clear ha hL hk1 hL1
  go_wp2_with fail
  refine (rcrash_any _ _ S n hn HR1.out).mono ?_
  rintro e w2 ⟨lv', rfl, hr⟩
  have hL2 := HL1.out.kept (kept_below hr.2.1 (fun _ => False)) (fun _ h => h.elim)
  obtain ⟨c0, c1, c2, c3, c4⟩ := blk4' hL2.h2
  have hs2 := hr.2.1.size
  have HRA := Lib.hid hr
  obtain ⟨a', c', rfl, _⟩ := hr.1.form
  clear hr hL2 a0 a1 a2 a3 a4 b0 b1 b2
  generalize hS' : (S.crash n) = S' at *
  go_wp2_with fail
  refine bodyPost_ret (v := .tuple #[refV (.slice a' S'.L.length c') S', .bool true]) (by simp [results, Try.results20, go_sem, c0, c1, c2, c3]) rfl ?_
  subst hS'
  exact ⟨_, rfl, do_fin HP.out (lay3_below w (.slice a S.L.length c) S.last S.fuse S.down 2 n t) (lay3_size w _ _ _ _ _ _ _) HA.out HRA.out (by (repeat (first | exact Kept.refl _ _ | assumption | refine Kept.drew ?_ | refine Kept.drewN ?_ _ | refine Kept.alloc ?_ _ | refine Kept.setCell ?_ (by (try simp); try omega) _)))⟩
set_option maxRecDepth 100000 in
set_option maxHeartbeats 4000000 in
theorem do_arm (w : World) (g : Nat) (v lv : Value) (S : Sto) (n : Int) (t : ByteArray) (hn : -9223372036854775808 ≤ n ∧ n ≤ 9223372036854775807) (hp : Pair w g v lv S) :
    Calls Try.prog 20 #[.pointer (some ⟨g, 0, none⟩), refV lv S, .agg #[.int .i64 3, .int .i64 n, .string t]] w fun e w' => ∃ lv', e = .returned (.tuple #[refV lv' (S.arm n), .bool true]) ∧ DoAfter w g v lv (S.arm n) lv' w' := by
  have HP := Lib.hid hp
  obtain ⟨a, c, rfl, _⟩ := hp.ref.form
  clear hp
  go_enter Try.func20, Try.ntmps20
  go_wp2_with fail
  refine (arm_any _ g v S n hn (((HP.out.store.alloc _).alloc _).alloc _)).mono ?_
  rintro e w1 ⟨rfl, ha⟩
  have hL := (lay3_laid w (.slice a S.L.length c) S.last S.fuse S.down 3 n t)
  have hk1 : Kept (mine g v) (lay3 w (.slice a S.L.length c) S.last S.fuse S.down 3 n t) w1 := by
    obtain ⟨_, _, h, _⟩ := ha; exact h
  have hL1 := hL.kept hk1 HP.out.mine_lt
  obtain ⟨a0, a1, a2, a3, a4⟩ := blk4' hL1.h0
  obtain ⟨b0, b1, b2⟩ := blk3 hL1.h1
  have HA := Lib.hid ha
  have HL1 := Lib.hid hL1
  have HR1 : Hid (RefAt w1 (.slice a S.L.length c) S) := ⟨HP.out.ref.row.keep fun k hk => (hk1.block k (by have := HP.out.ref.row.lt k hk; simp; omega) (HP.out.apart k hk)).trans ((lay3_below w (.slice a S.L.length c) S.last S.fuse S.down 3 n t).block k (HP.out.ref.row.lt k hk)), HP.out.ref.len, HP.out.ref.le, HP.out.ref.fuse⟩
  have hs1 : w.heap.size + 3 ≤ w1.heap.size := by have := hk1.size; simp at this; omega
  clear ha hL hk1 hL1
  go_wp2_with fail
  refine (rarm_any _ _ S n hn HR1.out).mono ?_
  rintro e w2 ⟨rfl, hr⟩
  have hL2 := HL1.out.kept (kept_below hr.2.1 (fun _ => False)) (fun _ h => h.elim)
  obtain ⟨c0, c1, c2, c3, c4⟩ := blk4' hL2.h2
  have hs2 := hr.2.1.size
  have HRA := Lib.hid hr
  clear hr hL2 a0 a1 a2 a3 a4 b0 b1 b2
  generalize hS' : (S.arm n) = S' at *
  go_wp2_with fail
  refine bodyPost_ret (v := .tuple #[refV (.slice a S.L.length c) S', .bool true]) (by simp [results, Try.results20, go_sem, c0, c1, c2, c3]) rfl ?_
  subst hS'
  exact ⟨_, rfl, do_fin HP.out (lay3_below w (.slice a S.L.length c) S.last S.fuse S.down 3 n t) (lay3_size w _ _ _ _ _ _ _) HA.out HRA.out (by (repeat (first | exact Kept.refl _ _ | assumption | refine Kept.drew ?_ | refine Kept.drewN ?_ _ | refine Kept.alloc ?_ _ | refine Kept.setCell ?_ (by (try simp); try omega) _)))⟩

set_option maxRecDepth 100000 in
set_option maxHeartbeats 4000000 in
theorem do_read (w : World) (g : Nat) (v lv : Value) (S : Sto) (n : Int) (t : ByteArray) (hp : Pair w g v lv S) :
    Calls Try.prog 20 #[.pointer (some ⟨g, 0, none⟩), refV lv S, .agg #[.int .i64 4, .int .i64 n, .string t]] w fun e w' => ∃ lv', e = .returned (.tuple #[refV lv' S, .bool true]) ∧ DoAfter w g v lv S lv' w' := by
  have HP := Lib.hid hp
  obtain ⟨a, c, rfl, _⟩ := hp.ref.form
  clear hp
  have HL := Lib.hid (lay3_laid w (.slice a S.L.length c) S.last S.fuse S.down 4 n t)
  have HR1 : Hid (RefAt (lay3 w (.slice a S.L.length c) S.last S.fuse S.down 4 n t) (.slice a S.L.length c) S) := HP.out.ref.below (lay3_below w (.slice a S.L.length c) S.last S.fuse S.down 4 n t)
  go_enter Try.func20, Try.ntmps20
  go_wp2_with fail
  refine (read_any _ g v S n (((HP.out.store.alloc _).alloc _).alloc _)).mono ?_
  rintro e w1 ⟨rfl, rfl⟩
  go_wp2_with fail
  refine (rread_any _ _ S n HR1.out).mono ?_
  rintro e w2 ⟨rfl, hb⟩
  have hL2 := HL.out.kept (kept_below hb (fun _ => False)) (fun _ h => h.elim)
  obtain ⟨a0, a1, a2, a3, a4⟩ := blk4' hL2.h0
  obtain ⟨c0, c1, c2, c3, c4⟩ := blk4' hL2.h2
  have HB := Lib.hid hb
  clear hb hL2
  generalize (S.read n).1 = x' at *
  generalize (S.read n).2 = n' at *
  go_wp2_with fail
  exact bodyPost_ret (v := .tuple #[refV (.slice a S.L.length c) S, .bool true]) (by simp [results, Try.results20, go_sem, c0, c1, c2, c3]) rfl ⟨_, rfl, do_fin HP.out (lay3_below w (.slice a S.L.length c) S.last S.fuse S.down 4 n t) (lay3_size w _ _ _ _ _ _ _) ⟨v, ((HP.out.store.alloc _).alloc _).alloc _, Kept.refl _ _, fun k hk => .inl hk⟩ (.same HR1.out rfl HP.out.ref.le HP.out.ref.fuse HB.out) (by (repeat (first | exact Kept.refl _ _ | assumption | refine Kept.drew ?_ | refine Kept.drewN ?_ _ | refine Kept.alloc ?_ _ | refine Kept.setCell ?_ (by (try simp); try omega) _)))⟩

set_option maxRecDepth 100000 in
set_option maxHeartbeats 4000000 in
theorem do_none (w : World) (g : Nat) (v lv : Value) (S : Sto) (kind n : Int) (t : ByteArray) (hk : kind ≠ 0 ∧ kind ≠ 1 ∧ kind ≠ 2 ∧ kind ≠ 3 ∧ kind ≠ 4) (hp : Pair w g v lv S) :
    Calls Try.prog 20 #[.pointer (some ⟨g, 0, none⟩), refV lv S, .agg #[.int .i64 kind, .int .i64 n, .string t]] w fun e w' => ∃ lv', e = .returned (.tuple #[refV lv' S, .bool true]) ∧ DoAfter w g v lv S lv' w' := by
  have HP := Lib.hid hp
  obtain ⟨a, c, rfl, _⟩ := hp.ref.form
  clear hp
  have HR1 : Hid (RefAt (lay3 w (.slice a S.L.length c) S.last S.fuse S.down kind n t) (.slice a S.L.length c) S) := HP.out.ref.below (lay3_below w (.slice a S.L.length c) S.last S.fuse S.down kind n t)
  obtain ⟨k0, k1, k2, k3, k4⟩ := hk
  have e0 : (kind == 0) = false := by rw [beq_eq_false_iff_ne]; exact k0
  have e1 : (kind == 1) = false := by rw [beq_eq_false_iff_ne]; exact k1
  have e2 : (kind == 2) = false := by rw [beq_eq_false_iff_ne]; exact k2
  have e3 : (kind == 3) = false := by rw [beq_eq_false_iff_ne]; exact k3
  have e4 : (kind == 4) = false := by rw [beq_eq_false_iff_ne]; exact k4
  clear k0 k1 k2 k3 k4
  go_enter Try.func20, Try.ntmps20
  go_wp2_with fail
  exact bodyPost_ret (v := .tuple #[refV (.slice a S.L.length c) S, .bool true]) (by simp [results, Try.results20, go_sem]) rfl ⟨_, rfl, do_fin HP.out (lay3_below w (.slice a S.L.length c) S.last S.fuse S.down kind n t) (lay3_size w _ _ _ _ _ _ _) ⟨v, ((HP.out.store.alloc _).alloc _).alloc _, Kept.refl _ _, fun k hk => .inl hk⟩ (.same HR1.out rfl HP.out.ref.le HP.out.ref.fuse (Below.refl _ _)) (kept_lay _)⟩

theorem do_any (w : World) (g : Nat) (v lv : Value) (S : Sto) (kind n : Int) (t : ByteArray) (hn : -9223372036854775808 ≤ n ∧ n ≤ 9223372036854775807) (ht : t.size ≤ maxLen) (hp : Pair w g v lv S) :
    Calls Try.prog 20 #[.pointer (some ⟨g, 0, none⟩), refV lv S, .agg #[.int .i64 kind, .int .i64 n, .string t]] w fun e w' => ∃ lv', e = .returned (.tuple #[refV lv' (S.step kind n t), .bool true]) ∧ DoAfter w g v lv (S.step kind n t) lv' w' := by
  unfold Sto.step
  by_cases h0 : kind = 0
  · subst h0; rw [if_pos rfl]; exact do_write w g v lv S n t ht hp
  rw [if_neg h0]
  by_cases h1 : kind = 1
  · subst h1; rw [if_pos rfl]; exact do_sync w g v lv S n t hp
  rw [if_neg h1]
  by_cases h2 : kind = 2
  · subst h2; rw [if_pos rfl]; exact do_crash w g v lv S n t hn hp
  rw [if_neg h2]
  by_cases h3 : kind = 3
  · subst h3; rw [if_pos rfl]; exact do_arm w g v lv S n t hn hp
  rw [if_neg h3]
  by_cases h4 : kind = 4
  · subst h4; exact do_read w g v lv S n t hp
  exact do_none w g v lv S kind n t ⟨h0, h1, h2, h3, h4⟩ hp
end Go.Proofs.Ytgifckledbopmaa
