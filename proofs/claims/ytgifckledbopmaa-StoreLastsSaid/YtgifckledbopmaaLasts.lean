/- The walk of StoreLasts: it returns true, old memory is as it was. -/
import Derived.Test.YtgifckledbopmaaReads
namespace Go.Proofs.Ytgifckledbopmaa
open Go.RowKit

/-- Is a number among the first q? -/
def anyAt (zs : Nat → Int) (q : Nat) (i : Nat) : Bool := (List.range q).any fun j => zs j == (i : Int)
theorem anyAt_zero (zs : Nat → Int) (i : Nat) : anyAt zs 0 i = false := rfl
theorem anyAt_succ (zs : Nat → Int) (q i : Nat) : anyAt zs (q + 1) i = (anyAt zs q i || (zs q == (i : Int))) := by
  unfold anyAt
  rw [List.range_succ, List.any_append, List.any_cons, List.any_nil, Bool.or_false]
/-- How many last behind so many rounds. -/
def lastN (zs : Nat → Int) (n : Nat) : Nat → Nat
  | 0 => 0
  | k + 1 => if anyAt zs n k = true then k + 1 else lastN zs n k
theorem lastN_le (zs : Nat → Int) (n k : Nat) : lastN zs n k ≤ k := by
  induction k with
  | zero => exact Nat.le_refl _
  | succ k ih => unfold lastN; split <;> omega
def curN (zs : Nat → Int) (n k q : Nat) : Nat := if anyAt zs q k = true then k + 1 else lastN zs n k
theorem curN_zero (zs : Nat → Int) (n k : Nat) : curN zs n k 0 = lastN zs n k := rfl
theorem curN_end (zs : Nat → Int) (n k : Nat) : curN zs n k n = lastN zs n (k + 1) := rfl
theorem curN_hit (zs : Nat → Int) (n k q : Nat) (h : zs q = (k : Int)) : curN zs n k (q + 1) = k + 1 := by
  unfold curN; rw [anyAt_succ, if_pos (by rw [beq_iff_eq.2 h]; simp)]
theorem curN_miss (zs : Nat → Int) (n k q : Nat) (h : zs q ≠ (k : Int)) : curN zs n k (q + 1) = curN zs n k q := by
  unfold curN; rw [anyAt_succ, beq_eq_false_iff_ne.2 h, Bool.or_false]

set_option maxRecDepth 100000 in
set_option maxHeartbeats 4000000 in
theorem lasts_any (A1 A2 : Option Addr) (n1 c1 n2 c2 : Nat) (os : Nat → ByteArray) (zs : Nat → Int) (keep again : Int) (W : World) (m1 : n1 ≤ maxLen) (m2 : n2 ≤ maxLen) (hk1 : -9223372036854775808 ≤ keep ∧ keep ≤ 9223372036854775807)
    (hk2 : -9223372036854775808 ≤ again ∧ again ≤ 9223372036854775807) (hO : ArgStrs W A1 n1 os) (hZ : ArgInts W A2 n2 zs) :
    Calls Try.prog 3 #[.slice A1 n1 c1, .slice A2 n2 c2, .int .i64 keep, .int .i64 again] W fun e w' => e = .returned (.bool true) ∧ Below W.heap.size W w' := by
  unfold maxLen at m1 m2
  by_cases hlong : n1 ≤ 60 ∧ n2 ≤ 60
  case neg =>
    have hl : 60 < n1 ∨ ¬ 60 < n1 ∧ 60 < n2 := by omega
    clear hlong hO hZ
    rcases hl with h | ⟨h, h'⟩
    all_goals
      go_enter Try.func3, Try.ntmps3
      go_wp2_with (go_at_call 10; refine (awake_any _).mono ?_; rintro e w1 ⟨rfl, hb⟩)
      go_ret
      exact ⟨rfl, hb⟩
  obtain ⟨h40, h41⟩ := hlong
  have HO := Lib.hid hO
  have HZ := Lib.hid hZ
  clear hO hZ
  go_enter Try.func3, Try.ntmps3
  go_wp2_with fail
  refine (awake_any _).mono ?_
  rintro e w1 ⟨rfl, hb⟩
  go_wp2_with fail
  refine (new1 hb).mono ?_
  rintro e w2 ⟨g, rfl, _, hs⟩
  have hp := fun W => ptr_nil W g
  clear hb
  go_wp2_with fail
  clear hp
  go_loopw [10, 11] (fun la i wr => ∃ k : Nat, k ≤ n1 ∧ i = .int .i64 k ∧ la = .int .i64 (lastN zs n2 k) ∧ One W g ⟨rg os k, lastN zs n2 k, -1, false⟩ wr) (fun _ i _ => n1 - (intOf i).toNat)
  case atStart => exact ⟨0, by omega, rfl, rfl, hs⟩
  case round =>
    clear hs
    obtain ⟨k, hk, rfl, rfl, hs⟩ := hrel
    by_cases hlt : k < n1
    · obtain ⟨b, o, rfl, h2, h3, hxs⟩ := HO.out k hlt
      have hc := (hs.2.1.cell (p := ⟨b, o + k, none⟩) h2).trans h3
      have hsz := hxs
      unfold maxLen at hsz
      clear h3
      by_cases hbig : 200 < (os k).size
      · generalize os k = x at *
        go_wp2_with fail
        go_ret
        exact ⟨rfl, hs.2.1⟩
      · have C := Lib.hid (write1 hs (os k) hxs (rg_write os k _ (by omega) (by omega)))
        clear hs
        generalize os k = x at *
        go_wp2_with fail
        refine C.out.mono ?_
        rintro e w3 ⟨rfl, h3⟩
        clear C hc
        go_wp2_with fail
        obtain ⟨wo, rfl⟩ : ∃ wo : World, wo = wr := ⟨_, rfl⟩
        go_loopw [10, 12] (fun la i wr => ∃ q : Nat, q ≤ n2 ∧ i = .int .i64 q ∧ la = .int .i64 (curN zs n2 k q) ∧ One W g ⟨rg os (k + 1), curN zs n2 k q, -1, false⟩ wr) (fun _ i _ => n2 - (intOf i).toNat)
        case atStart => exact ⟨0, by omega, rfl, rfl, h3⟩
        case round =>
          clear h3
          obtain ⟨q, hq, rfl, rfl, h3⟩ := hrel
          by_cases hql : q < n2
          · obtain ⟨b2, o2, rfl, g2, g3⟩ := HZ.out q hql
            have hc := (h3.2.1.cell (p := ⟨b2, o2 + q, none⟩) g2).trans g3
            clear g3
            by_cases hhit : zs q = (k : Int)
            · have HE := Lib.hid (curN_hit zs n2 k q hhit)
              have hzb : (zs q == (k : Int)) = true := by rw [beq_iff_eq]; exact hhit
              clear hhit
              generalize zs q = z at *
              go_wp2_with fail
              refine (sync1 h3 (rg_sync _ _ _)).mono ?_
              rintro e w4 ⟨rfl, h4⟩
              clear hc h3
              go_wp2_with fail
              exact ⟨⟨q + 1, by omega, by go_num, by rw [HE.out]; go_num, by rw [HE.out]; exact h4⟩, by simp [intOf]; omega⟩
            · have HE := Lib.hid (curN_miss zs n2 k q hhit)
              have hzb : (zs q == (k : Int)) = false := by rw [beq_eq_false_iff_ne]; exact hhit
              clear hhit
              generalize zs q = z at *
              go_wp2_with fail
              exact ⟨⟨q + 1, by omega, by go_num, by rw [HE.out], by rw [HE.out]; exact h3⟩, by simp [intOf]; omega⟩
          · obtain rfl : q = n2 := by omega
            rw [curN_end] at h3
            have HE := Lib.hid (curN_end zs q k)
            go_wp2_with fail
            exact ⟨⟨k + 1, by omega, by go_num, by rw [← HE.out], h3⟩, by simp [intOf]; omega⟩
    · have hkk : k = n1 := by omega
      have hge0 : (n1 : Int) ≤ (k : Int) := by omega
      have hla := lastN_le zs n2 k
      generalize lastN zs n2 k = la at *
      rw [hkk] at hs hla
      clear hkk hlt hk
      have hN := stayN_le n1 la keep hla
      have hcr := rg_crash os n1 la keep hla
      have hcr2 := rg_crash os (stayN n1 la keep) (stayN n1 la keep) again (Nat.le_refl _)
      have hst2 : stayN (stayN n1 la keep) (stayN n1 la keep) again = stayN n1 la keep := by unfold stayN; omega
      rw [hst2] at hcr2
      have hNv : stayN n1 la keep = la + (min (max keep 0) ((n1 : Int) - la)).toNat := rfl
      generalize stayN n1 la keep = N at *
      have HC := Lib.hid hcr
      have HC2 := Lib.hid hcr2
      obtain ⟨hN1, hN2⟩ := hN
      clear hcr hcr2 hst2
      have hk3 : keep < 0 ∨ ¬ keep < 0 ∧ ¬ (n1 : Int) - la < keep ∨ ¬ keep < 0 ∧ (n1 : Int) - la < keep := by omega
      have hnn : ¬ (n1 : Int) - la < 0 := by omega
      rcases hk3 with h1 | ⟨h1, h2⟩ | ⟨h1, h2⟩
      · have HN : Hid ((N : Int) = la) := (by omega : (N : Int) = la)
        clear hNv
        go_wp2_with fail
        refine (lasting1 (n := (la : Int)) hs rfl).mono ?_
        rintro e w3 ⟨rfl, h3⟩
        clear hs
        go_wp2_with fail
        refine (crash1 h3 keep hk1 HC.out).mono ?_
        rintro e w4 ⟨rfl, h4⟩
        clear h3
        go_wp2_with fail
        refine (len1 (n := (la : Int)) h4 (by simp only [rg_len]; exact HN.out)).mono ?_
        rintro e w5 ⟨rfl, h5⟩
        clear h4
        go_wp2_with fail
        refine (lasting1 (n := (la : Int)) h5 HN.out).mono ?_
        rintro e w6 ⟨rfl, h6⟩
        clear h5
        go_wp2_with fail
        refine (crash1 h6 again hk2 HC2.out).mono ?_
        rintro e w7 ⟨rfl, h7⟩
        clear h6
        go_wp2_with fail
        go_loopw [14] (fun i wr => ∃ j : Nat, j ≤ N ∧ i = .int .i64 j ∧ One W g ⟨rg os N, N, -1, false⟩ wr) (fun i _ => N - (intOf i).toNat)
        case atStart => exact ⟨0, by omega, rfl, h7⟩
        case round =>
          clear h7
          obtain ⟨j, hj, rfl, hs⟩ := hrel
          have b3 := HN.out
          by_cases hlt : j < N
          · obtain ⟨b, o, rfl, h2, h3, _⟩ := HO.out j (by omega)
            have hjw : (j : Int) < (la : Int) := by omega
            clear b3
            have C := Lib.hid (read1 hs j (rg_read os N N j hlt))
            have H3 := Lib.hid h3
            clear h3 hs
            generalize os j = x at *
            go_wp2_with fail
            refine C.out.mono ?_
            rintro e w8 ⟨rfl, h8⟩
            have hc2 := (h8.2.1.cell (p := ⟨b, o + j, none⟩) h2).trans H3.out
            clear C
            go_wp2_with fail
            exact ⟨⟨j + 1, by omega, by go_num, h8⟩, by simp [intOf]; omega⟩
          · have hjw : ¬ (j : Int) < (la : Int) := by omega
            have C := Lib.hid (read1 hs ((la : Int)) (rg_read_out os N N _ (.inr (by omega))))
            clear b3 hs
            go_wp2_with fail
            refine C.out.mono ?_
            rintro e w8 ⟨rfl, h8⟩
            clear C
            go_wp2_with fail
            refine (len1 (n := (la : Int)) h8 (by simp only [rg_len]; exact HN.out)).mono ?_
            rintro e w9 ⟨rfl, h9⟩
            go_wp2_with fail
            go_ret
            exact ⟨rfl, h9.2.1⟩
      · have HN : Hid ((N : Int) = (la : Int) + keep) := (by omega : (N : Int) = (la : Int) + keep)
        clear hNv
        go_wp2_with fail
        refine (lasting1 (n := (la : Int)) hs rfl).mono ?_
        rintro e w3 ⟨rfl, h3⟩
        clear hs
        go_wp2_with fail
        refine (crash1 h3 keep hk1 HC.out).mono ?_
        rintro e w4 ⟨rfl, h4⟩
        clear h3
        go_wp2_with fail
        refine (len1 (n := (la : Int) + keep) h4 (by simp only [rg_len]; exact HN.out)).mono ?_
        rintro e w5 ⟨rfl, h5⟩
        clear h4
        go_wp2_with fail
        refine (lasting1 (n := (la : Int) + keep) h5 HN.out).mono ?_
        rintro e w6 ⟨rfl, h6⟩
        clear h5
        go_wp2_with fail
        refine (crash1 h6 again hk2 HC2.out).mono ?_
        rintro e w7 ⟨rfl, h7⟩
        clear h6
        go_wp2_with fail
        go_loopw [14] (fun i wr => ∃ j : Nat, j ≤ N ∧ i = .int .i64 j ∧ One W g ⟨rg os N, N, -1, false⟩ wr) (fun i _ => N - (intOf i).toNat)
        case atStart => exact ⟨0, by omega, rfl, h7⟩
        case round =>
          clear h7
          obtain ⟨j, hj, rfl, hs⟩ := hrel
          have b3 := HN.out
          by_cases hlt : j < N
          · obtain ⟨b, o, rfl, h2, h3, _⟩ := HO.out j (by omega)
            have hjw : (j : Int) < (la : Int) + keep := by omega
            clear b3
            have C := Lib.hid (read1 hs j (rg_read os N N j hlt))
            have H3 := Lib.hid h3
            clear h3 hs
            generalize os j = x at *
            go_wp2_with fail
            refine C.out.mono ?_
            rintro e w8 ⟨rfl, h8⟩
            have hc2 := (h8.2.1.cell (p := ⟨b, o + j, none⟩) h2).trans H3.out
            clear C
            go_wp2_with fail
            exact ⟨⟨j + 1, by omega, by go_num, h8⟩, by simp [intOf]; omega⟩
          · have hjw : ¬ (j : Int) < (la : Int) + keep := by omega
            have C := Lib.hid (read1 hs ((la : Int) + keep) (rg_read_out os N N _ (.inr (by omega))))
            clear b3 hs
            go_wp2_with fail
            refine C.out.mono ?_
            rintro e w8 ⟨rfl, h8⟩
            clear C
            go_wp2_with fail
            refine (len1 (n := (la : Int) + keep) h8 (by simp only [rg_len]; exact HN.out)).mono ?_
            rintro e w9 ⟨rfl, h9⟩
            go_wp2_with fail
            go_ret
            exact ⟨rfl, h9.2.1⟩
      · have HN : Hid ((N : Int) = (n1 : Int)) := (by omega : (N : Int) = (n1 : Int))
        have w1 : IntKind.i64.wrap ((la : Int) + ((n1 : Int) - (la : Int))) = (n1 : Int) := by rw [IntWalk.i64_in _ (by omega)]; omega
        clear hNv
        go_wp2_with fail
        refine (lasting1 (n := (la : Int)) hs rfl).mono ?_
        rintro e w3 ⟨rfl, h3⟩
        clear hs
        go_wp2_with fail
        refine (crash1 h3 keep hk1 HC.out).mono ?_
        rintro e w4 ⟨rfl, h4⟩
        clear h3
        go_wp2_with fail
        refine (len1 (n := (n1 : Int)) h4 (by simp only [rg_len]; exact HN.out)).mono ?_
        rintro e w5 ⟨rfl, h5⟩
        clear h4
        go_wp2_with fail
        refine (lasting1 (n := (n1 : Int)) h5 HN.out).mono ?_
        rintro e w6 ⟨rfl, h6⟩
        clear h5
        go_wp2_with fail
        refine (crash1 h6 again hk2 HC2.out).mono ?_
        rintro e w7 ⟨rfl, h7⟩
        clear h6
        go_wp2_with fail
        go_loopw [14] (fun i wr => ∃ j : Nat, j ≤ N ∧ i = .int .i64 j ∧ One W g ⟨rg os N, N, -1, false⟩ wr) (fun i _ => N - (intOf i).toNat)
        case atStart => exact ⟨0, by omega, rfl, h7⟩
        case round =>
          clear h7
          obtain ⟨j, hj, rfl, hs⟩ := hrel
          have b3 := HN.out
          by_cases hlt : j < N
          · obtain ⟨b, o, rfl, h2, h3, _⟩ := HO.out j (by omega)
            have hjw : (j : Int) < (n1 : Int) := by omega
            clear b3
            have C := Lib.hid (read1 hs j (rg_read os N N j hlt))
            have H3 := Lib.hid h3
            clear h3 hs
            generalize os j = x at *
            go_wp2_with fail
            refine C.out.mono ?_
            rintro e w8 ⟨rfl, h8⟩
            have hc2 := (h8.2.1.cell (p := ⟨b, o + j, none⟩) h2).trans H3.out
            clear C
            go_wp2_with fail
            exact ⟨⟨j + 1, by omega, by go_num, h8⟩, by simp [intOf]; omega⟩
          · have hjw : ¬ (j : Int) < (n1 : Int) := by omega
            have C := Lib.hid (read1 hs ((n1 : Int)) (rg_read_out os N N _ (.inr (by omega))))
            clear b3 hs
            go_wp2_with fail
            refine C.out.mono ?_
            rintro e w8 ⟨rfl, h8⟩
            clear C
            go_wp2_with fail
            refine (len1 (n := (n1 : Int)) h8 (by simp only [rg_len]; exact HN.out)).mono ?_
            rintro e w9 ⟨rfl, h9⟩
            go_wp2_with fail
            go_ret
            exact ⟨rfl, h9.2.1⟩
end Go.Proofs.Ytgifckledbopmaa
