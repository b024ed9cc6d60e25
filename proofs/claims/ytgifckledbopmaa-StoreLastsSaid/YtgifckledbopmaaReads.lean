/- The walk of StoreReads: it returns true, old memory is as it was. -/
import Derived.Test.YtgifckledbopmaaArgs
namespace Go.Proofs.Ytgifckledbopmaa
open Go.RowKit

def rg (f : Nat → ByteArray) (k : Nat) : List ByteArray := (List.range k).map f
theorem rg_len (f : Nat → ByteArray) (k : Nat) : (rg f k).length = k := by simp [rg]
theorem rg_succ (f : Nat → ByteArray) (k : Nat) : rg f k ++ [f k] = rg f (k + 1) := by simp [rg, List.range_succ]
theorem rg_getD (f : Nat → ByteArray) (k i : Nat) (h : i < k) : (rg f k).getD i eS = f i := by
  rw [List.getD_eq_getElem?_getD, List.getElem?_eq_getElem (by rw [rg_len]; exact h)]
  simp [rg]
theorem rg_take (f : Nat → ByteArray) (k i : Nat) (h : i ≤ k) : (rg f k).take i = rg f i := by
  unfold rg
  rw [← List.map_take, List.take_range, Nat.min_eq_left h]

theorem rg_write (f : Nat → ByteArray) (k l : Nat) (hk : k < 4096) (hs : (f k).size ≤ 4096) : (Sto.mk (rg f k) l (-1) false).write (f k) = (0, ⟨rg f (k + 1), l, -1, false⟩) := by
  unfold Sto.write Sto.burn
  simp only [Bool.false_eq_true, if_false, rg_len]
  rw [if_neg (by omega), if_neg (by omega), if_neg (by decide), if_neg (by decide), rg_succ]
theorem rg_sync (f : Nat → ByteArray) (k l : Nat) : (Sto.mk (rg f k) l (-1) false).sync = (0, ⟨rg f k, k, -1, false⟩) := by
  unfold Sto.sync Sto.burn
  simp [rg_len]
theorem rg_read (f : Nat → ByteArray) (k l i : Nat) (hi : i < k) : (Sto.mk (rg f k) l (-1) false).read (i : Int) = (f i, 0) := by
  unfold Sto.read
  simp only [Bool.false_eq_true, if_false, rg_len]
  rw [if_pos (by omega), Int.toNat_natCast, rg_getD f k i hi]
theorem rg_read_out (f : Nat → ByteArray) (k l : Nat) (i : Int) (hi : i < 0 ∨ (k : Int) ≤ i) : (Sto.mk (rg f k) l (-1) false).read i = (eS, 3) := by
  unfold Sto.read
  simp only [Bool.false_eq_true, if_false, rg_len]
  rw [if_neg (by omega)]
/-- How many stay. -/
def stayN (k l : Nat) (keep : Int) : Nat := l + (min (max keep 0) ((k : Int) - l)).toNat
theorem stayN_le (k l : Nat) (keep : Int) (h : l ≤ k) : l ≤ stayN k l keep ∧ stayN k l keep ≤ k := by unfold stayN; omega
theorem rg_crash (f : Nat → ByteArray) (k l : Nat) (keep : Int) (hl : l ≤ k) : (Sto.mk (rg f k) l (-1) false).crash keep = ⟨rg f (stayN k l keep), stayN k l keep, -1, false⟩ := by
  unfold Sto.crash Sto.stay
  simp only [rg_len]
  have := stayN_le k l keep hl
  unfold stayN at this
  rw [rg_take f k _ this.2]; rfl

set_option maxRecDepth 100000 in
set_option maxHeartbeats 4000000 in
theorem reads_any (A1 A2 : Option Addr) (n1 c1 n2 c2 : Nat) (os ms : Nat → ByteArray) (W : World) (m1 : n1 ≤ maxLen) (m2 : n2 ≤ maxLen) (hO : ArgStrs W A1 n1 os) (hM : ArgStrs W A2 n2 ms) :
    Calls Try.prog 5 #[.slice A1 n1 c1, .slice A2 n2 c2] W fun e w' => e = .returned (.bool true) ∧ Below W.heap.size W w' := by
  unfold maxLen at m1 m2
  by_cases hlong : n1 ≤ 40 ∧ n2 ≤ 40
  case neg =>
    have hl : 40 < n1 ∨ ¬ 40 < n1 ∧ 40 < n2 := by omega
    clear hlong hO hM
    rcases hl with h | ⟨h, h'⟩
    all_goals
      go_enter Try.func5, Try.ntmps5
      go_wp2_with (go_at_call 10; refine (awake_any _).mono ?_; rintro e w1 ⟨rfl, hb⟩)
      go_ret
      exact ⟨rfl, hb⟩
  obtain ⟨h40, h41⟩ := hlong
  have HO := Lib.hid hO
  have HM := Lib.hid hM
  clear hO hM
  obtain ⟨f, hf1, hf2⟩ : ∃ f : Nat → ByteArray, (∀ j, j < n1 → f j = os j) ∧ ∀ j, n1 ≤ j → f j = ms (j - n1) :=
    ⟨fun j => if j < n1 then os j else ms (j - n1), fun j h => if_pos h, fun j h => if_neg (by omega)⟩
  have F1 := Lib.hid hf1
  have F2 := Lib.hid hf2
  clear hf1 hf2
  go_enter Try.func5, Try.ntmps5
  go_wp2_with fail
  refine (awake_any _).mono ?_
  rintro e w1 ⟨rfl, hb⟩
  go_wp2_with fail
  refine (new1 hb).mono ?_
  rintro e w2 ⟨g, rfl, _, hs⟩
  have hp := fun W => ptr_nil W g
  clear hb
  go_wp2_with fail
  go_loopw [6] (fun i wr => ∃ k : Nat, k ≤ n1 + n2 ∧ i = .int .i64 k ∧ One W g ⟨rg f k, if n1 ≤ k then n1 else 0, -1, false⟩ wr) (fun i _ => n1 + n2 - (intOf i).toNat)
  case atStart => exact ⟨0, by omega, rfl, by rw [show (if n1 ≤ 0 then n1 else 0) = 0 by split <;> omega]; exact hs⟩
  case round =>
    clear hs
    obtain ⟨k, hk, rfl, hs⟩ := hrel
    by_cases hlt : k < n1 + n2
    · have hcell : ∃ x : ByteArray, f k = x ∧ x.size ≤ maxLen ∧ ((k < n1 ∧ ∃ b o, A1 = some ⟨b, o, none⟩ ∧ wr.cell? ⟨b, o + k, none⟩ = some (.string x)) ∨ (¬ k < n1 ∧ ∃ b o, A2 = some ⟨b, o, none⟩ ∧ wr.cell? ⟨b, o + (k - n1), none⟩ = some (.string x))) := by
        by_cases hk1 : k < n1
        · obtain ⟨b, o, h1, h2, h3, h4⟩ := HO.out k hk1
          exact ⟨f k, rfl, by rw [F1.out k hk1]; exact h4, .inl ⟨hk1, b, o, h1, by rw [F1.out k hk1]; exact (hs.2.1.cell (p := ⟨b, o + k, none⟩) h2).trans h3⟩⟩
        · obtain ⟨b, o, h1, h2, h3, h4⟩ := HM.out (k - n1) (by omega)
          exact ⟨f k, rfl, by rw [F2.out k (by omega)]; exact h4, .inr ⟨hk1, b, o, h1, by rw [F2.out k (by omega)]; exact (hs.2.1.cell (p := ⟨b, o + (k - n1), none⟩) h2).trans h3⟩⟩
      obtain ⟨x, hx, hxs, hc⟩ := hcell
      have hsz := hxs
      unfold maxLen at hsz
      by_cases hbig : 300 < x.size
      · clear hx
        rcases hc with ⟨hk1, b, o, rfl, hc⟩ | ⟨hk1, b, o, rfl, hc⟩
        · go_wp2_with fail
          go_ret
          exact ⟨rfl, hs.2.1⟩
        · have w1 : ((k : Int) - (n1 : Int)).toNat = k - n1 := by omega
          go_wp2_with fail
          go_ret
          exact ⟨rfl, hs.2.1⟩
      · have hwr : (Sto.mk (rg f k) (if n1 ≤ k then n1 else 0) (-1) false).write x = (0, ⟨rg f (k + 1), if n1 ≤ k then n1 else 0, -1, false⟩) := by
          rw [← hx]
          exact rg_write f k _ (by omega) (by rw [hx]; omega)
        have C := Lib.hid (write1 hs x hxs hwr)
        clear hwr hx hs
        by_cases hl1 : k + 1 = n1
        · have hb : ((k : Int) == (n1 : Int) - 1) = true := by rw [beq_iff_eq]; omega
          have hk1 : k < n1 := by omega
          have HL : Hid (k + 1 = n1) := hl1
          clear hl1
          rcases hc with ⟨_, b, o, rfl, hc⟩ | ⟨hk2, _⟩
          · go_wp2_with fail
            refine C.out.mono ?_
            rintro e w3 ⟨rfl, h3⟩
            clear C hc
            go_wp2_with fail
            refine (len1 (n := (k : Int) + 1) h3 (by simp only [rg_len]; omega)).mono ?_
            rintro e w4 ⟨rfl, h4⟩
            clear h3
            go_wp2_with fail
            refine (sync1 h4 (rg_sync _ _ _)).mono ?_
            rintro e w5 ⟨rfl, h5⟩
            clear h4
            go_wp2_with fail
            refine (sync1 h5 (rg_sync _ _ _)).mono ?_
            rintro e w6 ⟨rfl, h6⟩
            clear h5
            go_wp2_with fail
            refine ⟨⟨k + 1, by omega, by go_num, ?_⟩, by simp [intOf]; omega⟩
            rw [if_pos (by have := HL.out; omega), ← HL.out]
            exact h6
          · exact absurd hk1 hk2
        · have hb : ((k : Int) == (n1 : Int) - 1) = false := by rw [beq_eq_false_iff_ne]; omega
          have HL : Hid (k + 1 ≠ n1) := hl1
          clear hl1
          have HE : Hid ((if n1 ≤ k then n1 else 0) = if n1 ≤ k + 1 then n1 else 0) := by
            have := HL.out
            show (if n1 ≤ k then n1 else 0) = if n1 ≤ k + 1 then n1 else 0
            by_cases h : n1 ≤ k
            · rw [if_pos h, if_pos (by omega)]
            · rw [if_neg h, if_neg (by omega)]
          rcases hc with ⟨hk1, b, o, rfl, hc⟩ | ⟨hk1, b, o, rfl, hc⟩
          · go_wp2_with fail
            refine C.out.mono ?_
            rintro e w3 ⟨rfl, h3⟩
            clear C hc
            go_wp2_with fail
            refine (len1 (n := (k : Int) + 1) h3 (by simp only [rg_len]; omega)).mono ?_
            rintro e w4 ⟨rfl, h4⟩
            clear h3
            go_wp2_with fail
            exact ⟨⟨k + 1, by omega, by go_num, by rw [← HE.out]; exact h4⟩, by simp [intOf]; omega⟩
          · have w1 : ((k : Int) - (n1 : Int)).toNat = k - n1 := by omega
            go_wp2_with fail
            refine C.out.mono ?_
            rintro e w3 ⟨rfl, h3⟩
            clear C hc
            go_wp2_with fail
            refine (len1 (n := (k : Int) + 1) h3 (by simp only [rg_len]; omega)).mono ?_
            rintro e w4 ⟨rfl, h4⟩
            clear h3
            go_wp2_with fail
            exact ⟨⟨k + 1, by omega, by go_num, by rw [← HE.out]; exact h4⟩, by simp [intOf]; omega⟩
    · have hkk : k = n1 + n2 := by omega
      have hge0 : (n1 : Int) + (n2 : Int) ≤ (k : Int) := by omega
      rw [if_pos (by omega), hkk] at hs
      clear hlt hk hp hkk
      go_wp2_with fail
      go_loopw [8] (fun i wr => ∃ k : Nat, k ≤ n1 ∧ i = .int .i64 k ∧ One W g ⟨rg f (n1 + n2), n1, -1, false⟩ wr) (fun i _ => n1 - (intOf i).toNat)
      case atStart => exact ⟨0, by omega, rfl, hs⟩
      case round =>
        clear hs
        obtain ⟨k, hk, rfl, hs⟩ := hrel
        by_cases hlt : k < n1
        · obtain ⟨b, o, rfl, h2, h3, _⟩ := HO.out k hlt
          have C := Lib.hid (read1 hs k (rg_read f (n1 + n2) n1 k (by omega)))
          rw [F1.out k hlt] at C
          clear hs
          generalize os k = x at *
          have H3 := Lib.hid h3
          clear h3
          go_wp2_with fail
          refine C.out.mono ?_
          rintro e w3 ⟨rfl, h4⟩
          have hc2 := (h4.2.1.cell (p := ⟨b, o + k, none⟩) h2).trans H3.out
          clear C
          go_wp2_with fail
          exact ⟨⟨k + 1, by omega, by go_num, h4⟩, by simp [intOf]; omega⟩
        · have hge : ¬ (k : Int) < (n1 : Int) := by omega
          clear hlt hk
          have hcr : (Sto.mk (rg f (n1 + n2)) n1 (-1) false).crash 0 = ⟨rg f n1, n1, -1, false⟩ := by
            rw [rg_crash f _ _ 0 (by omega)]
            have : stayN (n1 + n2) n1 0 = n1 := by unfold stayN; omega
            rw [this]
          have HC := Lib.hid hcr
          clear hcr
          go_wp2_with fail
          refine (lasting1 (n := (n1 : Int)) hs rfl).mono ?_
          rintro e w3 ⟨rfl, h4⟩
          go_wp2_with fail
          refine (crash1 h4 0 (by omega) HC.out).mono ?_
          rintro e w5 ⟨rfl, h5⟩
          go_wp2_with fail
          refine (len1 (n := (n1 : Int)) h5 (by simp only [rg_len])).mono ?_
          rintro e w6 ⟨rfl, h6⟩
          go_wp2_with fail
          go_ret
          exact ⟨rfl, h6.2.1⟩
end Go.Proofs.Ytgifckledbopmaa
