/- One store of the call's own: the methods' contracts in one form; the walk of awake. -/
import Derived.Test.YtgifckledbopmaaMethods2
namespace Go.Proofs.Ytgifckledbopmaa
open Go.RowKit

/-- A store of the call's own stands so, and all that was there when the call began is as it was. -/
def One (W : World) (g : Nat) (S : Sto) (w : World) : Prop :=
  W.heap.size ≤ g ∧ Below W.heap.size W w ∧ ∃ v, StoreAt w g v S ∧ ∀ k, v.ownBlock = some k → W.heap.size ≤ k

theorem One.lt {W w : World} {g : Nat} {S : Sto} (h : One W g S w) : g < w.heap.size := by
  obtain ⟨_, _, v, hs, _⟩ := h
  exact hs.lt
theorem One.after {W w w' : World} {g : Nat} {S S' : Sto} (h : One W g S w) (k : ∀ v, StoreAt w g v S → After w g v S' w') : One W g S' w' := by
  obtain ⟨h1, h2, v, h3, h4⟩ := h
  obtain ⟨v', a1, a2, a3⟩ := k v h3
  refine ⟨h1, h2.trans ⟨a2.os, a2.tape, a2.output, a2.size, fun i hi => a2.block i (Nat.lt_of_lt_of_le hi h2.size) ?_⟩, v', a1, fun i hi => ?_⟩
  · rintro (rfl | hx)
    · omega
    · have := h4 i hx; omega
  · rcases a3 i hi with hx | hx
    · exact h4 i hx
    · exact Nat.le_trans h2.size hx
/-- Steps that make memory alone leave the store as it is. -/
theorem One.more {W w w' : World} {g : Nat} {S : Sto} (h : One W g S w) (hb : Below w.heap.size w w') : One W g S w' := by
  obtain ⟨h1, h2, v, h3, h4⟩ := h
  have hk : Kept (fun _ => False) w w' := ⟨hb.os, hb.tape, hb.output, hb.size, fun i hi _ => hb.block i hi⟩
  exact ⟨h1, h2.trans (hb.mono h2.size), v, h3.keep hk (fun _ _ => id), h4⟩
theorem One.alloc {W w : World} {g : Nat} {S : Sto} (h : One W g S w) (o : Obj) : One W g S (w.alloc o) := h.more ((Below.refl _ _).alloc (Nat.le_refl _) _)
theorem One.drewN {W w : World} {g : Nat} {S : Sto} (h : One W g S w) (n : Nat) : One W g S (w.drewN n) := h.more (below_drewN (Below.refl _ _) n)
theorem One.drew {W w : World} {g : Nat} {S : Sto} (h : One W g S w) : One W g S w.drew := h.more (Below.refl _ _).drew

/-- A later world over an earlier beginning. -/
theorem One.of_later {W W' w : World} {g : Nat} {S : Sto} (hb : Below W.heap.size W W') (h : One W' g S w) : One W g S w := by
  obtain ⟨h1, h2, v, h3, h4⟩ := h
  exact ⟨Nat.le_trans hb.size h1, hb.trans (h2.mono hb.size), v, h3, fun k hk => Nat.le_trans hb.size (h4 k hk)⟩

section
variable {W w : World} {g : Nat} {S S' : Sto} {n : Int}
theorem new1 {W w : World} (hb : Below W.heap.size W w) : Calls Try.prog 11 #[] w fun e w' => ∃ g, e = .returned (.pointer (some ⟨g, 0, none⟩)) ∧ w.heap.size ≤ g ∧ One W g ⟨[], 0, -1, false⟩ w' :=
  (new_any w).mono fun _ _ ⟨g, h1, h2, h3, h4⟩ => ⟨g, h1, h2, Nat.le_trans hb.size h2, hb.trans (h4.mono hb.size), _, h3, fun k hk => by cases hk⟩
theorem write1 (h : One W g S w) (t : ByteArray) (ht : t.size ≤ maxLen) (hS : S.write t = (n, S')) : Calls Try.prog 12 #[.pointer (some ⟨g, 0, none⟩), .string t] w fun e w' => e = .returned (.int .i64 n) ∧ One W g S' w' := by
  obtain ⟨_, _, v, hs, _⟩ := id h
  refine (write_any w g v S t ht hs).mono fun e w' ⟨h1, h2⟩ => ?_
  rw [hS] at h1 h2
  refine ⟨h1, h.after fun v' hv => ?_⟩
  obtain rfl : v' = v := by
    have a := hv.cell.1
    have b := hs.cell.1
    exact Option.some.inj (a.symm.trans b)
  exact h2
theorem sync1 (h : One W g S w) (hS : S.sync = (n, S')) : Calls Try.prog 13 #[.pointer (some ⟨g, 0, none⟩)] w fun e w' => e = .returned (.int .i64 n) ∧ One W g S' w' := by
  obtain ⟨_, _, v, hs, _⟩ := id h
  refine (sync_any w g v S hs).mono fun e w' ⟨h1, h2⟩ => ?_
  rw [hS] at h1 h2
  refine ⟨h1, h.after fun v' hv => ?_⟩
  obtain rfl : v' = v := Option.some.inj (hv.cell.1.symm.trans hs.cell.1)
  exact h2
theorem crash1 (h : One W g S w) (k : Int) (hk : -9223372036854775808 ≤ k ∧ k ≤ 9223372036854775807) (hS : S.crash k = S') : Calls Try.prog 15 #[.pointer (some ⟨g, 0, none⟩), .int .i64 k] w fun e w' => e = .returned (.tuple #[]) ∧ One W g S' w' := by
  obtain ⟨_, _, v, hs, _⟩ := id h
  refine (crash_any w g v S k hk hs).mono fun e w' ⟨h1, h2⟩ => ?_
  rw [hS] at h2
  refine ⟨h1, h.after fun v' hv => ?_⟩
  obtain rfl : v' = v := Option.some.inj (hv.cell.1.symm.trans hs.cell.1)
  exact h2
theorem arm1 (h : One W g S w) (k : Int) (hk : -9223372036854775808 ≤ k ∧ k ≤ 9223372036854775807) (hS : S.arm k = S') : Calls Try.prog 22 #[.pointer (some ⟨g, 0, none⟩), .int .i64 k] w fun e w' => e = .returned (.tuple #[]) ∧ One W g S' w' := by
  obtain ⟨_, _, v, hs, _⟩ := id h
  refine (arm_any w g v S k hk hs).mono fun e w' ⟨h1, h2⟩ => ?_
  rw [hS] at h2
  refine ⟨h1, h.after fun v' hv => ?_⟩
  obtain rfl : v' = v := Option.some.inj (hv.cell.1.symm.trans hs.cell.1)
  exact h2
theorem len1 (h : One W g S w) (hS : (S.L.length : Int) = n) : Calls Try.prog 16 #[.pointer (some ⟨g, 0, none⟩)] w fun e w' => e = .returned (.int .i64 n) ∧ One W g S w' := by
  obtain ⟨_, _, v, hs, _⟩ := id h
  refine (len_any w g v S hs).mono fun e w' ⟨h1, h2⟩ => ?_
  rw [hS] at h1; subst h2
  exact ⟨h1, h⟩
theorem lasting1 (h : One W g S w) (hS : (S.last : Int) = n) : Calls Try.prog 14 #[.pointer (some ⟨g, 0, none⟩)] w fun e w' => e = .returned (.int .i64 n) ∧ One W g S w' := by
  obtain ⟨_, _, v, hs, _⟩ := id h
  refine (lasting_any w g v S hs).mono fun e w' ⟨h1, h2⟩ => ?_
  rw [hS] at h1; subst h2
  exact ⟨h1, h⟩
theorem down1 {b : Bool} (h : One W g S w) (hS : S.down = b) : Calls Try.prog 23 #[.pointer (some ⟨g, 0, none⟩)] w fun e w' => e = .returned (.bool b) ∧ One W g S w' := by
  obtain ⟨_, _, v, hs, _⟩ := id h
  refine (down_any w g v S hs).mono fun e w' ⟨h1, h2⟩ => ?_
  rw [hS] at h1; subst h2
  exact ⟨h1, h⟩
theorem read1 {x : ByteArray} (h : One W g S w) (i : Int) (hS : S.read i = (x, n)) : Calls Try.prog 17 #[.pointer (some ⟨g, 0, none⟩), .int .i64 i] w fun e w' => e = .returned (.tuple #[.string x, .int .i64 n]) ∧ One W g S w' := by
  obtain ⟨_, _, v, hs, _⟩ := id h
  refine (read_any w g v S i hs).mono fun e w' ⟨h1, h2⟩ => ?_
  rw [hS] at h1; subst h2
  exact ⟨h1, h⟩
end

abbrev sA : ByteArray := { data := #[97] }
abbrev sB : ByteArray := { data := #[98] }
abbrev sC : ByteArray := { data := #[99] }

/-- '==' of a store's pointer and nil. -/
theorem ptr_nil (W : World) (g : Nat) : (binOp .eql 25 (.pointer (some ⟨g, 0, none⟩)) (.pointer none)).run Try.prog W = .ok (.bool false) W := by kernel_rfl

set_option maxHeartbeats 1000000 in
theorem awake_any (W : World) : Calls Try.prog 10 #[] W fun e w' => e = .returned (.bool true) ∧ Below W.heap.size W w' := by
  go_enter Try.func10, Try.ntmps10
  go_wp2_with fail
  refine (new1 (Below.refl _ _)).mono ?_
  rintro e w1 ⟨g, rfl, _, h1⟩
  have hp := fun W => ptr_nil W g
  go_wp2_with fail
  refine (write1 (n := 0) (S' := ⟨[sA], 0, -1, false⟩) h1 sA (by simp [maxLen, ByteArray.size]) (by rfl)).mono ?_
  rintro e w2 ⟨rfl, h2⟩
  go_wp2_with fail
  refine (sync1 (n := 0) (S' := ⟨[sA], 1, -1, false⟩) h2 (by rfl)).mono ?_
  rintro e w3 ⟨rfl, h3⟩
  go_wp2_with fail
  refine (write1 (n := 0) (S' := ⟨[sA, sB], 1, -1, false⟩) h3 sB (by simp [maxLen, ByteArray.size]) (by rfl)).mono ?_
  rintro e w4 ⟨rfl, h4⟩
  go_wp2_with fail
  refine (write1 (n := 0) (S' := ⟨[sA, sB, sC], 1, -1, false⟩) h4 sC (by simp [maxLen, ByteArray.size]) (by rfl)).mono ?_
  rintro e w5 ⟨rfl, h5⟩
  go_wp2_with fail
  refine (crash1 (S' := ⟨[sA, sB], 2, -1, false⟩) h5 1 (by omega) (by rfl)).mono ?_
  rintro e w6 ⟨rfl, h6⟩
  go_wp2_with fail
  refine (read1 (n := 0) (x := sB) h6 1 (by decide +kernel)).mono ?_
  rintro e w7 ⟨rfl, h7⟩
  go_wp2_with fail
  refine (len1 (n := 2) h7 (by decide +kernel)).mono ?_
  rintro e w8 ⟨rfl, h8⟩
  go_wp2_with fail
  refine (lasting1 (n := 2) h8 (by decide +kernel)).mono ?_
  rintro e w9 ⟨rfl, h9⟩
  go_wp2_with fail
  go_ret
  exact ⟨rfl, h9.2.1⟩
end Go.Proofs.Ytgifckledbopmaa
