/- The walks of Read, Crash, Arm: each tells just what the store's state says. -/
import Derived.Test.YtgifckledbopmaaMethods
namespace Go.Proofs.Ytgifckledbopmaa
open Go.RowKit

abbrev eS : ByteArray := { data := #[] }
def Sto.read (S : Sto) (i : Int) : ByteArray × Int :=
  if S.down = true then (eS, 14) else if 0 ≤ i ∧ i < S.L.length then (S.L.getD i.toNat eS, 0) else (eS, 3)
/-- How many stay behind a crash. -/
def Sto.stay (S : Sto) (keep : Int) : Nat := S.last + (min (max keep 0) ((S.L.length : Int) - S.last)).toNat
def Sto.crash (S : Sto) (keep : Int) : Sto := { L := S.L.take (S.stay keep), last := S.stay keep, fuse := -1, down := false }
def Sto.arm (S : Sto) (n : Int) : Sto := { S with fuse := max n (-1) }

set_option maxHeartbeats 1000000 in
theorem read_any (w : World) (g : Nat) (v : Value) (S : Sto) (i : Int) (h : StoreAt w g v S) :
    Calls Try.prog 17 #[.pointer (some ⟨g, 0, none⟩), .int .i64 i] w fun e w' => e = .returned (.tuple #[.string (S.read i).1, .int .i64 (S.read i).2]) ∧ w = w' := by
  obtain ⟨c0, c1, c2, c3⟩ := h.cell
  obtain ⟨a, cap, hv, hl1, hl2, hl3⟩ := h.form
  have hrow := h.row
  have hlen := h.len
  unfold maxLen at hl2
  clear h c1 c2
  cases hd : S.down with
  | true =>
    have e1 : S.read i = (eS, 14) := by unfold Sto.read; rw [if_pos hd]
    rw [e1]
    rw [hd] at c3
    clear hd e1 hv hrow c0
    go_enter Try.func17, Try.ntmps17
    go_wp2
    go_ret2
    exact ⟨rfl, rfl⟩
  | false =>
    rw [hd] at c3
    by_cases hi : 0 ≤ i ∧ i < S.L.length
    · have e1 : S.read i = (S.L.getD i.toNat eS, 0) := by unfold Sto.read; rw [if_neg (by rw [hd]; decide), if_pos hi]
      rw [e1]
      obtain ⟨h0, h1⟩ := hi
      obtain ⟨k, rfl⟩ := Int.eq_ofNat_of_zero_le h0
      obtain ⟨r, rfl⟩ := hl3 (by omega)
      subst hv
      have hcell := hrow.cell k (.string (S.L.getD k eS)) (by unfold strsV; rw [List.getElem?_map, List.getD_eq_getElem?_getD, List.getElem?_eq_getElem (by omega)]; rfl)
      rw [Int.toNat_natCast]
      generalize S.L.getD k eS = x at *
      clear hd e1 hrow hl3
      go_enter Try.func17, Try.ntmps17
      go_wp2
      go_ret2
      exact ⟨rfl, rfl⟩
    · have e1 : S.read i = (eS, 3) := by unfold Sto.read; rw [if_neg (by rw [hd]; decide), if_neg hi]
      rw [e1]
      subst hv
      have hi' : i < 0 ∨ ¬ i < 0 ∧ (S.L.length : Int) ≤ i := by omega
      clear hd e1 hi hrow
      rcases hi' with hi | ⟨hi, hi2⟩
      all_goals
        go_enter Try.func17, Try.ntmps17
        go_wp2
        go_ret2
        exact ⟨rfl, rfl⟩

set_option maxHeartbeats 1000000 in
theorem arm_any (w : World) (g : Nat) (v : Value) (S : Sto) (n : Int) (hn : -9223372036854775808 ≤ n ∧ n ≤ 9223372036854775807) (h : StoreAt w g v S) :
    Calls Try.prog 22 #[.pointer (some ⟨g, 0, none⟩), .int .i64 n] w fun e w' => e = .returned (.tuple #[]) ∧ After w g v (S.arm n) w' := by
  obtain ⟨c0, c1, c2, c3⟩ := h.cell
  have f2 := h.frozen 2
  have HS := Lib.hid h
  clear h c0 c1 c3
  unfold Sto.arm
  go_enter Try.func22, Try.ntmps22
  go_wp2
  · have e1 : max n (-1) = -1 := by omega
    go_end0
    exact ⟨rfl, v, by rw [e1]; exact HS.out.setFuse (-1) (by omega) (by omega), (Kept.refl _ w).setCell (.inl (.inl rfl)) _, fun k hk => .inl hk⟩
  · have e1 : max n (-1) = n := by omega
    go_end0
    exact ⟨rfl, v, by rw [e1]; exact HS.out.setFuse n (by omega) (by omega), (Kept.refl _ w).setCell (.inl (.inl rfl)) _, fun k hk => .inl hk⟩

theorem RowAt.take {w : World} {e : TypeId} {a : Option Addr} {k cap : Nat} {L : List Value} (h : RowAt w e (.slice a k cap) L) (n : Nat) (hn : n ≤ L.length) : RowAt w e (.slice a n n) (L.take n) := by
  rcases h with ⟨h, rfl⟩ | ⟨r, cap', cur, hv, hg, h1, h2, h3, h4⟩
  · injection h with h5 h6 h7
    subst h5
    have hn0 : n = 0 := by simpa using hn
    subst hn0
    exact .inl ⟨rfl, rfl⟩
  · injection hv with h5 h6 h7
    subst h5; subst h7
    have hlen : (L.take n).length = n := by simp; omega
    refine .inr ⟨r, n, cur, by rw [hlen], hg, by rw [hlen]; exact Nat.le_refl _, by omega, by omega, ?_⟩
    rw [hlen, ← h4, List.take_take, Nat.min_eq_left hn]

theorem crash_fin {w : World} {g : Nat} {a : Option Addr} {cap : Nat} {S : Sto} {keep : Int} (h : StoreAt w g (.slice a S.L.length cap) S) (n : Nat) (hn : n ≤ S.L.length) (hl : S.last ≤ n) (hst : S.stay keep = n) :
    After w g (.slice a S.L.length cap) (S.crash keep)
      ((((w.setCell ⟨g, 0, none⟩ (.slice a n n)).setCell ⟨g, 1, none⟩ (.int .i64 n)).setCell ⟨g, 2, none⟩ (.int .i64 (-1))).setCell ⟨g, 3, none⟩ (.bool false)).drew.drew := by
  have hr : RowAt w 9 (.slice a n n) (strsV (S.L.take n)) := by
    have := h.row.take n (by simpa [strsV] using hn)
    unfold strsV at this ⊢
    rwa [← List.map_take] at this
  have hlen : (S.L.take n).length = n := by simp; omega
  have ha : (Value.slice a n n).ownBlock ≠ some g := by
    have := h.apart
    cases a with
    | none => simp [Value.ownBlock]
    | some x => simpa [Value.ownBlock] using this
  have h1 := h.setRow (L := S.L.take n) hr ha (by rw [hlen]; have := h.len; omega) (by rw [hlen]; exact hl)
  have h2 := h1.setLast n (by show n ≤ (S.L.take n).length; rw [hlen]; exact Nat.le_refl _)
  have h3 := (h2.setFuse (-1) (by omega) (by omega)).setDown false
  refine ⟨.slice a n n, ?_, (((((Kept.refl _ w).setCell (.inl (.inl rfl)) _).setCell (.inl (.inl rfl)) _).setCell (.inl (.inl rfl)) _).setCell (.inl (.inl rfl)) _).drew.drew, ?_⟩
  · have : S.crash keep = { L := S.L.take n, last := n, fuse := -1, down := false } := by unfold Sto.crash; rw [hst]
    rw [this]
    exact h3.drew.drew
  · intro k hk
    cases a with
    | none => simp [Value.ownBlock] at hk
    | some x => exact .inl (by simpa [Value.ownBlock] using hk)

set_option maxRecDepth 100000 in
set_option maxHeartbeats 2000000 in
theorem crash_any (w : World) (g : Nat) (v : Value) (S : Sto) (keep : Int) (hn : -9223372036854775808 ≤ keep ∧ keep ≤ 9223372036854775807) (h : StoreAt w g v S) :
    Calls Try.prog 15 #[.pointer (some ⟨g, 0, none⟩), .int .i64 keep] w fun e w' => e = .returned (.tuple #[]) ∧ After w g v (S.crash keep) w' := by
  obtain ⟨c0, c1, c2, c3⟩ := h.cell
  have f0 := h.frozen 0
  have f1 := h.frozen 1
  have f2 := h.frozen 2
  have f3 := h.frozen 3
  have hle := h.le
  have hlen := h.len
  obtain ⟨a, cap, hv, hl1, hl2, hl3⟩ := h.form
  have HS := Lib.hid h
  unfold maxLen at hl2
  clear h
  subst hv
  have hk3 : keep < 0 ∨ ¬ keep < 0 ∧ ¬ (S.L.length : Int) - S.last < keep ∨ ¬ keep < 0 ∧ (S.L.length : Int) - S.last < keep := by omega
  have hnn : ¬ (S.L.length : Int) - S.last < 0 := by omega
  have b1 : 0 ≤ (S.last : Int) := Int.natCast_nonneg _
  have b2 : (S.last : Int) ≤ (cap : Int) := by omega
  have b3 : (S.L.length : Int) ≤ (cap : Int) := by omega
  rcases hk3 with h1 | ⟨h1, h2⟩ | ⟨h1, h2⟩
  · go_enter Try.func15, Try.ntmps15
    go_wp2
    go_region
    go_wp2
    go_region
    go_wp2
    go_end0
    exact ⟨rfl, crash_fin HS.out S.last hle (Nat.le_refl _) (by unfold Sto.stay; omega)⟩
  · obtain ⟨kk, rfl⟩ := Int.eq_ofNat_of_zero_le (show 0 ≤ keep by omega)
    have w1 : IntKind.i64.wrap ((S.last : Int) + (kk : Int)) = (S.last : Int) + (kk : Int) := IntWalk.i64_in _ (by omega)
    have w2 : 0 ≤ (S.last : Int) + (kk : Int) := by omega
    have w3 : (S.last : Int) + (kk : Int) ≤ (cap : Int) := by omega
    have w4 : ((S.last : Int) + (kk : Int)).toNat = S.last + kk := by omega
    go_enter Try.func15, Try.ntmps15
    go_wp2
    go_region
    go_wp2
    go_region
    go_wp2
    go_end0
    exact ⟨rfl, crash_fin HS.out (S.last + kk) (by omega) (by omega) (by unfold Sto.stay; omega)⟩
  · have w1 : IntKind.i64.wrap ((S.last : Int) + ((S.L.length : Int) - (S.last : Int))) = (S.L.length : Int) := by rw [IntWalk.i64_in _ (by omega)]; omega
    go_enter Try.func15, Try.ntmps15
    go_wp2
    go_region
    go_wp2
    go_region
    go_wp2
    go_end0
    exact ⟨rfl, crash_fin HS.out S.L.length (Nat.le_refl _) hle (by unfold Sto.stay; omega)⟩
end Go.Proofs.Ytgifckledbopmaa
