/- The walk of alike: a store, and the document's, of one state stand alike. -/
import Derived.Test.YtgifckledbopmaaRefW
import Derived.Test.YtgifckledbopmaaFuse
namespace Go.Proofs.Ytgifckledbopmaa
open Go.RowKit

theorem len_q (w : World) (g : Nat) (v : Value) (S : Sto) (h : StoreAt w g v S) : Calls Try.prog 16 #[.pointer (some ⟨g, 0, none⟩)] w fun e w' => e = .returned (.int .i64 S.L.length) ∧ w' = w :=
  (len_any w g v S h).mono fun _ _ ⟨h1, h2⟩ => ⟨h1, h2.symm⟩
theorem lasting_q (w : World) (g : Nat) (v : Value) (S : Sto) (h : StoreAt w g v S) : Calls Try.prog 14 #[.pointer (some ⟨g, 0, none⟩)] w fun e w' => e = .returned (.int .i64 S.last) ∧ w' = w :=
  (lasting_any w g v S h).mono fun _ _ ⟨h1, h2⟩ => ⟨h1, h2.symm⟩
theorem down_q (w : World) (g : Nat) (v : Value) (S : Sto) (h : StoreAt w g v S) : Calls Try.prog 23 #[.pointer (some ⟨g, 0, none⟩)] w fun e w' => e = .returned (.bool S.down) ∧ w' = w :=
  (down_any w g v S h).mono fun _ _ ⟨h1, h2⟩ => ⟨h1, h2.symm⟩

set_option maxRecDepth 100000 in
set_option maxHeartbeats 2000000 in
theorem alike_any (w : World) (g : Nat) (v lv : Value) (S : Sto) (hs : StoreAt w g v S) (hr : RefAt w lv S) :
    Calls Try.prog 21 #[.pointer (some ⟨g, 0, none⟩), refV lv S] w fun e w' => e = .returned (.bool true) ∧ Below w.heap.size w w' := by
  have HS := Lib.hid hs
  have HR := Lib.hid hr
  obtain ⟨a, c, rfl, hl1, hl2, _⟩ := hr.form
  have hlen := hr.len
  have hrd : ∀ (k : Nat), k < S.L.length ∨ True := fun _ => .inr trivial
  clear hs hr hrd
  unfold maxLen at hl2
  go_enter Try.func21, Try.ntmps21
  go_wp2_with fail
  go_quiet (first
    | (go_at_call 16; refine Calls.quiet_of_same (len_q _ g v S ?_); exact (HS.out.alloc _).drewN _)
    | (go_at_call 14; refine Calls.quiet_of_same (lasting_q _ g v S ?_); exact (HS.out.alloc _).drewN _)
    | (go_at_call 23; refine Calls.quiet_of_same (down_q _ g v S ?_); exact (HS.out.alloc _).drewN _))
  go_wp2_with fail
  go_loopw [5] (fun i wr => ∃ k : Nat, k ≤ S.L.length ∧ i = .int .i64 k ∧ Below w.heap.size w wr ∧ wr.heap[w.heap.size]? = some (.cells #[.slice a S.L.length c, .int .i64 S.last, .int .i64 S.fuse, .bool S.down] 42 (0, 0))) (fun i _ => S.L.length - (intOf i).toNat)
  case atStart => exact ⟨0, by omega, rfl, below_drewN (by (repeat (first | exact Below.refl _ _ | assumption | refine Below.drew ?_ | refine below_drewN ?_ _ | refine Below.alloc ?_ (by (try simp); try omega) _ | refine Below.setCell ?_ (by (try simp); try omega) _))) _, at_top (o := .cells #[.slice a S.L.length c, .int .i64 S.last, .int .i64 S.fuse, .bool S.down] 42) rfl⟩
  case round =>
    obtain ⟨k, hk, rfl, hb, hbox⟩ := hrel
    have hlt := heap_lt hbox
    obtain ⟨c0, c1, c2, c3, c4⟩ := blk4 (Below.refl (w.heap.size + 1) wr) (b := w.heap.size) (by omega) hbox
    have HB := Lib.hid hb
    have HX := Lib.hid hbox
    clear hb hbox
    by_cases hkl : k < S.L.length
    · have hkl' : (k : Int) < (S.L.length : Int) := by omega
      go_wp2_with fail
      refine (read_any wr g v S k (HS.out.keep (X := fun _ => False) ⟨HB.out.os, HB.out.tape, HB.out.output, HB.out.size, fun i hi _ => HB.out.block i hi⟩ (fun _ _ => id))).mono ?_
      rintro e w1 ⟨rfl, rfl⟩
      go_wp2_with fail
      refine (rread_any wr (.slice a S.L.length c) S k (HR.out.below HB.out)).mono ?_
      rintro e w1 ⟨rfl, hb1⟩
      have HB1 := Lib.hid hb1
      clear hb1
      go_wp2_with fail
      exact ⟨⟨k + 1, by omega, by go_num, HB.out.trans (HB1.out.mono (by omega)), (HB1.out.block _ hlt).trans HX.out⟩, by simp [intOf]; omega⟩
    · have hge : ¬ (k : Int) < (S.L.length : Int) := by omega
      clear hkl
      go_wp2_with fail
      go_ret
      exact ⟨rfl, HB.out⟩
end Go.Proofs.Ytgifckledbopmaa
