/- The walk of LayMore: whatever the lay, the hours more, the stretches and the halves, it returns true, and old memory is as it was. -/
import Derived.Test.YtpflojfdlmdmfaaPlainM
import Derived.Test.YtpflojfdlmdmfaaRefC
import Derived.Test.YtpflojfdlmdmfaaMayEq
import Derived.Test.YtpflojfdlmdmfaaRefCut
import Derived.Deep.RegionLaw
import Derived.Deep.DeepCutAuto
namespace Go.Proofs.Ytpflojfdlmdmfaa
open Go.RowKit

set_option maxRecDepth 100000 in
set_option maxHeartbeats 4000000 in
theorem layMore_any (w : World) (l : La) (mo : Int) (A : Option Addr) (n c : Nat) (hv : Int) (ss : Nat → St) (hn : n ≤ maxLen) (hh : i64b hv) (hS : Sts w A n ss) :
    Calls Try.prog 6 #[laV l, .int .i64 mo, .slice A n c, .int .i64 hv] w fun e w' => e = .returned (.bool true) ∧ Below w.heap.size w w' := by
  have HS := Lib.hid hS
  have HN := Lib.hid hn
  have HH := Lib.hid hh
  unfold maxLen at hn
  clear hS hh
  go_enter Try.func6, Try.ntmps6
  go_wp2_with fail
  refine (awake_any _).mono ?_
  rintro e w1 ⟨rfl, hb⟩
  have HB : Hid (Below w.heap.size w w1) := ((Below.refl _ w).alloc (Nat.le_refl _) (laO l)).trans (hb.mono (by simp))
  have HX : Hid (w1.heap[w.heap.size]? = some (laO l)) := (hb.block w.heap.size (by simp)).trans (heap_alloc_new w (laO l))
  clear hb
  by_cases h1 : n < 1
  · have h1' : (n : Int) < 1 := by omega
    go_wp2_with fail
    go_ret
    exact ⟨rfl, HB.out⟩
  by_cases h60 : 30 < n
  · have h60' : (30 : Int) < (n : Int) := by omega
    have h1' : ¬ (n : Int) < 1 := by omega
    go_wp2_with fail
    go_ret
    exact ⟨rfl, HB.out⟩
  have h60' : ¬ (30 : Int) < (n : Int) := by omega
  have h1' : ¬ (n : Int) < 1 := by omega
  go_wp2_with fail
  refine (long_any w1 A n c 2000 ss HN.out (HS.out.below HB.out)).mono ?_
  rintro e w2 ⟨rfl, hb⟩
  have HB2 : Hid (Below w.heap.size w w2) := HB.out.trans (hb.mono HB.out.size)
  have HX2 : Hid (w2.heap[w.heap.size]? = some (laO l)) := (hb.block w.heap.size (heap_lt HX.out)).trans HX.out
  obtain ⟨b0, b1, b2⟩ := box3 HX2.out
  clear hb
  cases hlb : longB ss n 2000 with
  | true =>
    go_wp2_with fail
    go_ret
    exact ⟨rfl, HB2.out⟩
  | false =>
    by_cases hmo : mo < 0
    · go_wp2_with fail
      go_ret
      exact ⟨rfl, HB2.out⟩
    by_cases hmo2 : 1000 < mo
    · go_wp2_with fail
      go_ret
      exact ⟨rfl, HB2.out⟩
    by_cases hfr : 524288 < l.free
    · go_wp2_with fail
      go_ret
      exact ⟨rfl, HB2.out⟩
    go_wp2_with fail
    refine (refmay_eq _ l).mono ?_
    rintro e w3 ⟨rfl, rfl⟩
    cases hmay : mayB l with
    | false =>
      go_wp2_with fail
      go_ret
      exact ⟨rfl, HB2.out.alloc HB2.out.size _⟩
    | true =>
      have HMay := Lib.hid hmay
      obtain ⟨m1, m2, m3⟩ := may_all hmay
      have hwide : mayB ⟨l.free + mo, l.late, l.soon⟩ = true := by unfold mayB; simp; omega
      have HWide := Lib.hid hwide
      clear hmay hwide
      go_wp2_with fail
      refine (refcheck_any _ A n c ss HN.out (HS.out.below (HB2.out.alloc HB2.out.size _))).mono ?_
      rintro e w4 ⟨k, x, rfl, hk, hb⟩
      have HK := Lib.hid hk
      have HB4 : Hid (Below w.heap.size w w4) := (HB2.out.alloc HB2.out.size (laO l)).trans (hb.mono (by have := HB2.out.size; simp; omega))
      have HX4 : Hid (w4.heap[w.heap.size]? = some (laO l)) := (hb.block w.heap.size (by have := heap_lt HX2.out; simp; omega)).trans (up HX2.out)
      have hlt4 := heap_lt HX4.out
      obtain ⟨c0, c1, c2⟩ := box3 HX4.out
      clear hb hk
      by_cases h0 : x = 0
      · subst h0
        have hr := (chk_ok (l := l) (.inr ⟨HMay.out, k, HK.out⟩)).2.2.1
        have HR := Lib.hid hr
        have hck : Chk ss n n 0 := ⟨Nat.le_refl _, hr, .inl ⟨rfl, rfl⟩⟩
        have HCk := Lib.hid hck
        have hle := Lib.hid (wide_used (F := 2 * l.free) (F' := 2 * (l.free + mo)) (by omega) hr)
        have hout := Lib.hid (wide_out (F := 2 * l.free) (F' := 2 * (l.free + mo)) (by omega) hr (by omega))
        have hfit := runN_fits (F := 2 * l.free) hr n (Nat.le_refl _)
        have hfit' := runN_fits (F := 2 * (l.free + mo)) hr n (Nat.le_refl _)
        have wm : IntKind.i64.wrap (l.free + mo) = l.free + mo := IntWalk.i64_in _ (by omega)
        have hsz4 := HB4.out.size
        have HB4' : Hid (Below w.heap.size w (w4.alloc (laO ⟨l.free + mo, l.late, l.soon⟩))) := HB4.out.alloc HB4.out.size _
        have HX4' : Hid ((w4.alloc (laO ⟨l.free + mo, l.late, l.soon⟩)).heap[w.heap.size]? = some (laO l)) := up' HX4.out
        have HY4' : Hid ((w4.alloc (laO ⟨l.free + mo, l.late, l.soon⟩)).heap[w4.heap.size]? = some (laO ⟨l.free + mo, l.late, l.soon⟩)) := heap_alloc_new _ _
        have hy0 : w.heap.size < (w4.alloc (laO ⟨l.free + mo, l.late, l.soon⟩)).heap.size := heap_lt HX4'.out
        have hy1 : w4.heap.size < (w4.alloc (laO ⟨l.free + mo, l.late, l.soon⟩)).heap.size := heap_lt HY4'.out
        clear hr hck
        go_wp2_with fail
        refine ((used_any _ l A n c ss HN.out (HS.out.below HB4'.out)).mono fun e w' h => used_ok2 h HMay.out HR.out).mono ?_
        rintro e w5 ⟨rfl, hb⟩
        have HB5 : Hid (Below w.heap.size w w5) := HB4'.out.trans (hb.mono HB4'.out.size)
        have HX5 : Hid (w5.heap[w.heap.size]? = some (laO l)) := (hb.block w.heap.size hy0).trans HX4'.out
        have HY5 : Hid (w5.heap[w4.heap.size]? = some (laO ⟨l.free + mo, l.late, l.soon⟩)) := (hb.block w4.heap.size hy1).trans HY4'.out
        obtain ⟨d0, d1, d2⟩ := box3 HX5.out
        obtain ⟨e0, e1, e2⟩ := box3 HY5.out
        clear hb
        go_wp2_with fail
        refine ((used_any _ ⟨l.free + mo, l.late, l.soon⟩ A n c ss HN.out (HS.out.below HB5.out)).mono fun e w' h => used_ok2 h HWide.out HR.out).mono ?_
        rintro e w6 ⟨rfl, hb⟩
        have HB6 : Hid (Below w.heap.size w w6) := HB5.out.trans (hb.mono HB5.out.size)
        have HX6 : Hid (w6.heap[w.heap.size]? = some (laO l)) := (hb.block w.heap.size (heap_lt HX5.out)).trans HX5.out
        have HY6 : Hid (w6.heap[w4.heap.size]? = some (laO ⟨l.free + mo, l.late, l.soon⟩)) := (hb.block w4.heap.size (heap_lt HY5.out)).trans HY5.out
        clear hb d0 d1 d2 e0 e1 e2
        obtain ⟨d0, d1, d2⟩ := box3 HX6.out
        obtain ⟨e0, e1, e2⟩ := box3 HY6.out
        go_wp2_with fail
        refine (expires_any _ l A n c ss HN.out (HS.out.below HB6.out)).mono ?_
        rintro e w7 ⟨o, b, rfl, hb, hp⟩
        have hP := Lib.hid (hp HMay.out HCk.out (by omega))
        have HB7 : Hid (Below w.heap.size w w7) := HB6.out.trans (hb.mono HB6.out.size)
        have HX7 : Hid (w7.heap[w.heap.size]? = some (laO l)) := (hb.block w.heap.size (heap_lt HX6.out)).trans HX6.out
        have HY7 : Hid (w7.heap[w4.heap.size]? = some (laO ⟨l.free + mo, l.late, l.soon⟩)) := (hb.block w4.heap.size (heap_lt HY6.out)).trans HY6.out
        clear hb hp d0 d1 d2 e0 e1 e2
        obtain ⟨d0, d1, d2⟩ := box3 HX7.out
        obtain ⟨e0, e1, e2⟩ := box3 HY7.out
        go_wp2_with fail
        refine (expires_any _ ⟨l.free + mo, l.late, l.soon⟩ A n c ss HN.out (HS.out.below HB7.out)).mono ?_
        rintro e w8 ⟨o', b', rfl, hb, hp⟩
        have hP' := Lib.hid (hp HWide.out HCk.out (by omega))
        have HB8 : Hid (Below w.heap.size w w8) := HB7.out.trans (hb.mono HB7.out.size)
        have HX8 : Hid (w8.heap[w.heap.size]? = some (laO l)) := (hb.block w.heap.size (heap_lt HX7.out)).trans HX7.out
        clear hb hp d0 d1 d2 e0 e1 e2
        obtain ⟨d0, d1, d2⟩ := box3 HX8.out
        have hbo : Hid (b' = true → b = true ∧ o ≤ o') := fun hb' => by
          have h1 := hP'.out
          have h2 := hP.out
          split at h1
          · rw [h1.2] at hb'; cases hb'
          · rename_i h3
            obtain ⟨g1, g2⟩ := hout.out (by simp only at h3; omega)
            rw [if_neg (by omega)] at h2
            exact ⟨h2.2, by rw [h2.1, h1.1]; exact g2⟩
        have hle' := hle.out
        have htb := (right_of (HR.out (n - 1) (by omega))).1
        have hen : endN ss n = (ss (n - 1)).t := by unfold endN; rw [if_neg (by omega)]
        have HEn := Lib.hid hen
        obtain ⟨bk, of, hA, q1, _, q3, _⟩ := HS.out (n - 1) (by omega)
        have e3 := (HB8.out.cell (p := ⟨bk, of + (n - 1) * 3 + 1, none⟩) q1).trans q3
        obtain ⟨t0, ht0⟩ : ∃ t0, t0 = (ss (n - 1)).t := ⟨_, rfl⟩
        rw [← ht0] at HEn e3 htb
        have i0 : 0 ≤ (n : Int) - 1 := by omega
        have i1 : ((n : Int) - 1).toNat = n - 1 := by omega
        have i2 : (n : Int) - 1 < (n : Int) := by omega
        have i4 : IntKind.i64.wrap ((n : Int) - 1) = (n : Int) - 1 := IntWalk.i64_in _ (by omega)
        have i5 : IntKind.i64.wrap (t0 + 1) = t0 + 1 := IntWalk.i64_in _ (by omega)
        have RD := Lib.hid (sts_reads c HS.out (by omega))
        subst hA
        clear q3 hen ht0 hP hP' hle hout c0 c1 c2
        generalize hU' : (runN (2 * (l.free + mo)) ss n).1 = u' at *
        clear hU'
        go_upto_region 14 with fail
        go_cut [120] (fun s wx => s = .bool false ∧ w8 = wx)
        case first =>
          cases b' with
          | false =>
            go_wp2_with fail
            go_meet
            exact ⟨by first | rfl | (simp; omega), rfl⟩
          | true =>
            obtain ⟨rfl, hoo⟩ := hbo.out rfl
            go_wp2_with fail
            go_meet
            exact ⟨by first | rfl | (simp; omega), rfl⟩
        case rest =>
        obtain ⟨rfl, rfl⟩ := hcut
        clear hbo hle'
        have hy8 := heap_lt HX8.out
        have hsz8 := HB8.out.size
        go_upto_region 18 with fail
        go_cut [22] (fun s wx => ∃ A7 c7, s = .slice A7 (listN ss n ++ [(⟨t0, t0 + 1, hv⟩ : St)]).length c7 ∧ RowS wx (.slice A7 (listN ss n ++ [(⟨t0, t0 + 1, hv⟩ : St)]).length c7) (listN ss n ++ [(⟨t0, t0 + 1, hv⟩ : St)]) ∧ Below w.heap.size w wx ∧ wx.heap[w.heap.size]? = some (laO l))
        case first =>
          go_region_law (first
            | (refine step_append_st _ rfl (.tmp 133) (.tmp 134) rfl (.slice (some ⟨w8.heap.size + 1 + 1, 0, none⟩) 0 0) [] ?he1a ?hr1a (.slice (some ⟨bk, of, none⟩) n c) (listN ss n) ?he2a ?hr2a ?h63a ?_
               case he1a => kernel_rfl
               case he2a => kernel_rfl
               case hr1a => exact rowS_empty _ _ (at_top_d (by first | omega | (simp; done) | (simp; omega)))
               case hr2a => exact RD.out.below ((((HB8.out.alloc HB8.out.size _).alloc (by first | omega | (simp; done) | (simp; omega)) _).alloc (by first | omega | (simp; done) | (simp; omega)) _).drew)
               case h63a => first | (rw [listN_length]; simp; done) | (rw [listN_length]; simp; omega)
               intro A6 c6 w9 hr9 hg9 ho9
               have HR9 : Hid (RowS w9 (.slice A6 (listN ss n).length c6) (listN ss n)) := hr9
               have HP9 : Hid (∀ k, (Value.slice A6 (listN ss n).length c6).ownBlock = some k → w8.heap.size < k) := fun k hk => by
                 rcases ho9 with ho | ho
                 · have hk' := ho.symm.trans hk
                   simp [Value.ownBlock] at hk'; omega
                 · have hk' := ho.symm.trans hk
                   simp at hk'; omega
               have HB9 : Hid (Below w.heap.size w w9) := Below.grown ((((HB8.out.alloc HB8.out.size _).alloc (by first | omega | (simp; done) | (simp; omega)) _).alloc (by first | omega | (simp; done) | (simp; omega)) _).drew) hg9 (by first | omega | (simp; done) | (simp; omega)) (fun k hk => by simp [Value.ownBlock] at hk; omega)
               have HX9 : Hid (w9.heap[w.heap.size]? = some (laO l)) := (hg9.block w.heap.size (by first | omega | (simp; done) | (simp; omega)) (by first | (simp [Value.ownBlock]; done) | (simp [Value.ownBlock]; omega))).trans (up_d (up_c (up_c HX8.out)))
               have HZ9 : Hid (w9.heap[w8.heap.size]? = some (.cells #[.int .i64 t0, .int .i64 (t0 + 1), .int .i64 hv] 28)) := (hg9.block w8.heap.size (by first | omega | (simp; done) | (simp; omega)) (by first | (simp [Value.ownBlock]; done) | (simp [Value.ownBlock]; omega))).trans (up_d (up_c (at_top rfl)))
               have HY9 : Hid (w9.heap[w8.heap.size + 1]? = some (.cells #[.int .i64 t0, .int .i64 (t0 + 1), .int .i64 hv] 28)) := (hg9.block (w8.heap.size + 1) (by first | omega | (simp; done) | (simp; omega)) (by first | (simp [Value.ownBlock]; done) | (simp [Value.ownBlock]; omega))).trans (up_d (at_top (by first | omega | (simp; done) | (simp; omega))))
               obtain ⟨g0, g1, g2⟩ := box3 HZ9.out
               have hsz9 := HB9.out.size
               have hlt9 := heap_lt HZ9.out
               clear hg9 ho9 hr9)
            | (refine step_append_st _ rfl (.tmp 133) (.tmp 134) rfl (.slice (some ⟨w8.heap.size + 1, 0, none⟩) 0 0) [] ?he1b ?hr1b (.slice (some ⟨bk, of, none⟩) n c) (listN ss n) ?he2b ?hr2b ?h63b ?_
               case he1b => kernel_rfl
               case he2b => kernel_rfl
               case hr1b => exact rowS_empty _ _ (up_d (at_top (by first | omega | (simp; done) | (simp; omega))))
               case hr2b => exact RD.out.below ((((HB8.out.alloc HB8.out.size _).alloc (by first | omega | (simp; done) | (simp; omega)) _).alloc (by first | omega | (simp; done) | (simp; omega)) _).drew)
               case h63b => first | (rw [listN_length]; simp; done) | (rw [listN_length]; simp; omega)
               intro A6 c6 w9 hr9 hg9 ho9
               have HR9 : Hid (RowS w9 (.slice A6 (listN ss n).length c6) (listN ss n)) := hr9
               have HP9 : Hid (∀ k, (Value.slice A6 (listN ss n).length c6).ownBlock = some k → w8.heap.size < k) := fun k hk => by
                 rcases ho9 with ho | ho
                 · have hk' := ho.symm.trans hk
                   simp [Value.ownBlock] at hk'; omega
                 · have hk' := ho.symm.trans hk
                   simp at hk'; omega
               have HB9 : Hid (Below w.heap.size w w9) := Below.grown ((((HB8.out.alloc HB8.out.size _).alloc (by first | omega | (simp; done) | (simp; omega)) _).alloc (by first | omega | (simp; done) | (simp; omega)) _).drew) hg9 (by first | omega | (simp; done) | (simp; omega)) (fun k hk => by simp [Value.ownBlock] at hk; omega)
               have HX9 : Hid (w9.heap[w.heap.size]? = some (laO l)) := (hg9.block w.heap.size (by first | omega | (simp; done) | (simp; omega)) (by first | (simp [Value.ownBlock]; done) | (simp [Value.ownBlock]; omega))).trans (up_d (up_c (up_c HX8.out)))
               have HZ9 : Hid (w9.heap[w8.heap.size]? = some (.cells #[.int .i64 t0, .int .i64 (t0 + 1), .int .i64 hv] 28)) := (hg9.block w8.heap.size (by first | omega | (simp; done) | (simp; omega)) (by first | (simp [Value.ownBlock]; done) | (simp [Value.ownBlock]; omega))).trans (up_d (up_c (at_top rfl)))
               have HY9 : Hid (w9.heap[w8.heap.size + 1 + 1]? = some (.cells #[.int .i64 t0, .int .i64 (t0 + 1), .int .i64 hv] 28)) := (hg9.block (w8.heap.size + 1 + 1) (by first | omega | (simp; done) | (simp; omega)) (by first | (simp [Value.ownBlock]; done) | (simp [Value.ownBlock]; omega))).trans (at_top_d (by first | omega | (simp; done) | (simp; omega)))
               obtain ⟨g0, g1, g2⟩ := box3 HZ9.out
               have hsz9 := HB9.out.size
               have hlt9 := heap_lt HZ9.out
               clear hg9 ho9 hr9)
            | (refine step_append_st _ rfl (.tmp 133) (.tmp 134) rfl (.slice (some ⟨w8.heap.size + 1, 0, none⟩) 0 0) [] ?he1c ?hr1c (.slice (some ⟨bk, of, none⟩) n c) (listN ss n) ?he2c ?hr2c ?h63c ?_
               case he1c => kernel_rfl
               case he2c => kernel_rfl
               case hr1c => exact rowS_empty _ _ (at_top_d (by first | omega | (simp; done) | (simp; omega)))
               case hr2c => exact RD.out.below (((HB8.out.alloc HB8.out.size _).alloc (by first | omega | (simp; done) | (simp; omega)) _).drew)
               case h63c => first | (rw [listN_length]; simp; done) | (rw [listN_length]; simp; omega)
               intro A6 c6 w9 hr9 hg9 ho9
               have HR9 : Hid (RowS w9 (.slice A6 (listN ss n).length c6) (listN ss n)) := hr9
               have HP9 : Hid (∀ k, (Value.slice A6 (listN ss n).length c6).ownBlock = some k → w8.heap.size < k) := fun k hk => by
                 rcases ho9 with ho | ho
                 · have hk' := ho.symm.trans hk
                   simp [Value.ownBlock] at hk'; omega
                 · have hk' := ho.symm.trans hk
                   simp at hk'; omega
               have HB9 : Hid (Below w.heap.size w w9) := Below.grown (((HB8.out.alloc HB8.out.size _).alloc (by first | omega | (simp; done) | (simp; omega)) _).drew) hg9 (by first | omega | (simp; done) | (simp; omega)) (fun k hk => by simp [Value.ownBlock] at hk; omega)
               have HX9 : Hid (w9.heap[w.heap.size]? = some (laO l)) := (hg9.block w.heap.size (by first | omega | (simp; done) | (simp; omega)) (by first | (simp [Value.ownBlock]; done) | (simp [Value.ownBlock]; omega))).trans (up_d (up_c HX8.out))
               have HZ9 : Hid (w9.heap[w8.heap.size]? = some (.cells #[.int .i64 t0, .int .i64 (t0 + 1), .int .i64 hv] 28)) := (hg9.block w8.heap.size (by first | omega | (simp; done) | (simp; omega)) (by first | (simp [Value.ownBlock]; done) | (simp [Value.ownBlock]; omega))).trans (up_d (at_top rfl))
               obtain ⟨g0, g1, g2⟩ := box3 HZ9.out
               have hsz9 := HB9.out.size
               have hlt9 := heap_lt HZ9.out
               clear hg9 ho9 hr9)
            | (refine step_append_st _ rfl (.tmp 135) (.tmp 137) rfl (.slice A6 (listN ss n).length c6) (listN ss n) ?he1d ?hr1d (.slice (some ⟨w9.heap.size, 0, none⟩) 1 1) [⟨t0, t0 + 1, hv⟩] ?he2d ?hr2d ?h63d ?_
               case he1d => kernel_rfl
               case he2d => kernel_rfl
               case hr1d => exact HR9.out.alloc _
               case hr2d => exact reads_one (at_top rfl)
               case h63d => first | (rw [listN_length]; simp; done) | (rw [listN_length]; simp; omega)
               intro A7 c7 w10 hr10 hg10 ho10
               have HB10 : Hid (Below w.heap.size w w10) := Below.grown (HB9.out.alloc HB9.out.size _) hg10 (by first | omega | (simp; done) | (simp; omega)) (fun k hk => by have := HP9.out k hk; omega)
               have HX10 : Hid (w10.heap[w.heap.size]? = some (laO l)) := (hg10.block w.heap.size (by have := heap_lt HX9.out; first | omega | (simp; done) | (simp; omega)) (fun e => by have := HP9.out _ e.symm; omega)).trans (up_c HX9.out)
               have R10 := Lib.hid hr10
               clear hr10 hg10 ho10)
            | (refine step_append_st _ rfl (.tmp 135) (.tmp 137) rfl (.slice A6 (listN ss n).length c6) (listN ss n) ?he1e ?hr1e (.slice (some ⟨w8.heap.size + 1 + 1, 0, none⟩) 1 1) [⟨t0, t0 + 1, hv⟩] ?he2e ?hr2e ?h63e ?_
               case he1e => kernel_rfl
               case he2e => kernel_rfl
               case hr1e => exact HR9.out
               case hr2e => exact reads_one HY9.out
               case h63e => first | (rw [listN_length]; simp; done) | (rw [listN_length]; simp; omega)
               intro A7 c7 w10 hr10 hg10 ho10
               have HB10 : Hid (Below w.heap.size w w10) := Below.grown (HB9.out) hg10 (by first | omega | (simp; done) | (simp; omega)) (fun k hk => by have := HP9.out k hk; omega)
               have HX10 : Hid (w10.heap[w.heap.size]? = some (laO l)) := (hg10.block w.heap.size (by have := heap_lt HX9.out; first | omega | (simp; done) | (simp; omega)) (fun e => by have := HP9.out _ e.symm; omega)).trans (HX9.out)
               have R10 := Lib.hid hr10
               clear hr10 hg10 ho10)
            | (refine step_append_st _ rfl (.tmp 135) (.tmp 137) rfl (.slice A6 (listN ss n).length c6) (listN ss n) ?he1f ?hr1f (.slice (some ⟨w8.heap.size + 1, 0, none⟩) 1 1) [⟨t0, t0 + 1, hv⟩] ?he2f ?hr2f ?h63f ?_
               case he1f => kernel_rfl
               case he2f => kernel_rfl
               case hr1f => exact HR9.out
               case hr2f => exact reads_one HY9.out
               case h63f => first | (rw [listN_length]; simp; done) | (rw [listN_length]; simp; omega)
               intro A7 c7 w10 hr10 hg10 ho10
               have HB10 : Hid (Below w.heap.size w w10) := Below.grown (HB9.out) hg10 (by first | omega | (simp; done) | (simp; omega)) (fun k hk => by have := HP9.out k hk; omega)
               have HX10 : Hid (w10.heap[w.heap.size]? = some (laO l)) := (hg10.block w.heap.size (by have := heap_lt HX9.out; first | omega | (simp; done) | (simp; omega)) (fun e => by have := HP9.out _ e.symm; omega)).trans (HX9.out)
               have R10 := Lib.hid hr10
               clear hr10 hg10 ho10))
          all_goals (go_wp2_with fail; go_meet)
          all_goals exact ⟨A7, c7, by first | rfl | simp, R10.out, HB10.out, HX10.out⟩
        case rest =>
        obtain ⟨A7, c7, rfl, hr7, hb, hx⟩ := hcut
        have HB11 := Lib.hid hb
        have HX11 := Lib.hid hx
        obtain ⟨c0, c1, c2⟩ := box3 hx
        obtain ⟨e7, f7, s7⟩ := hr7.sts (fun y hy => by
          rcases List.mem_append.1 hy with hy | hy
          · exact list_bnd (Sts.bnd'' HS.out) y hy
          · simp at hy; subst hy; exact ⟨by simp only [i64b]; omega, by simp only [i64b]; omega, HH.out⟩)
        have F7 := Lib.hid f7
        have S7 := Lib.hid s7
        have hlen : (listN ss n ++ [(⟨t0, t0 + 1, hv⟩ : St)]).length = n + 1 := by rw [List.length_append, listN_length]; rfl
        have HMU := Lib.hid (more_used (2 * l.free) ss n ⟨t0, t0 + 1, hv⟩)
        have hMR : Hid (0 ≤ hv → hv ≤ 2 → t0 < 1048576 → ∀ j, j < (listN ss n ++ [(⟨t0, t0 + 1, hv⟩ : St)]).length → wrongE (fun j => (listN ss n ++ [(⟨t0, t0 + 1, hv⟩ : St)]).getD j ⟨0, 0, 0⟩) j = 0) := fun a1 a2 a3 => more_right HR.out (by omega) ⟨t0, t0 + 1, hv⟩ ⟨by show 0 ≤ t0; omega, by show t0 < t0 + 1; omega, by show t0 + 1 ≤ 1048576; omega, a1, a2⟩ HEn.out.symm
        have hMon : Hid (∀ v, (runN (2 * l.free) ss n).1 ≤ v → monE l (runN (2 * l.free) ss n).1 = 0 → monE l v = 0 → monV l (runN (2 * l.free) ss n).1 ≤ monV l v) := fun v h1 h2 h3 => monV_mono HMay.out h1 h2 h3
        have HM1 := Lib.hid (fun W hW => money_ok W l (some ⟨bk, of, none⟩) n c ss HN.out hW HMay.out HR.out)
        have hTB : Hid (0 ≤ hv → hv ≤ 2 → (runN (2 * l.free) ss n).1 ≤ takeU (2 * l.free) (runN (2 * l.free) ss n).1 ⟨t0, t0 + 1, hv⟩ ∧ takeU (2 * l.free) (runN (2 * l.free) ss n).1 ⟨t0, t0 + 1, hv⟩ ≤ (runN (2 * l.free) ss n).1 + 2) := fun a1 a2 => by
          have h := takeU_bounds (F := 2 * l.free) (u := (runN (2 * l.free) ss n).1) (x := ⟨t0, t0 + 1, hv⟩) (by show t0 < t0 + 1; omega) ⟨a1, a2⟩
          refine ⟨h.1, Int.le_trans h.2 ?_⟩
          show _ + 2 * (t0 + 1 - t0) ≤ _
          omega
        have hLast : Hid ((∀ j, j < (listN ss n ++ [(⟨t0, t0 + 1, hv⟩ : St)]).length → wrongE (fun j => (listN ss n ++ [(⟨t0, t0 + 1, hv⟩ : St)]).getD j ⟨0, 0, 0⟩) j = 0) → 0 ≤ hv ∧ hv ≤ 2) := fun h => by
          have h1 := (right_of (h n (by omega))).1
          have h2 : (listN ss n ++ [(⟨t0, t0 + 1, hv⟩ : St)]).getD n ⟨0, 0, 0⟩ = ⟨t0, t0 + 1, hv⟩ := by
            rw [List.getD_eq_getElem?_getD, List.getElem?_append_right (by rw [listN_length]; exact Nat.le_refl _), listN_length, Nat.sub_self]; rfl
          simp only [h2] at h1
          exact h1.2.2.2
        clear hr7 hb hx e7 f7 s7
        generalize hLL : listN ss n ++ [(⟨t0, t0 + 1, hv⟩ : St)] = LL at *
        rw [hlen] at F7 S7 HMU hMR hLast ⊢
        generalize (runN (2 * l.free) ss n).1 = u at *
        go_wp2_with fail
        refine (used_any wc l A7 (n + 1) c7 _ F7.out S7.out).mono ?_
        rintro e w12 ⟨v, y, rfl, hb, hp⟩
        have HB12 : Hid (Below w.heap.size w w12) := HB11.out.trans (hb.mono HB11.out.size)
        have HX12 : Hid (w12.heap[w.heap.size]? = some (laO l)) := (hb.block w.heap.size (heap_lt HX11.out)).trans HX11.out
        have S12 := Lib.hid (S7.out.below hb)
        clear c0 c1 c2 hb
        obtain ⟨c0, c1, c2⟩ := box3 HX12.out
        by_cases hy : y = 0
        · subst hy
          have hgot : v = takeU (2 * l.free) u ⟨t0, t0 + 1, hv⟩ ∧ (∀ j, j < n + 1 → wrongE (fun j => LL.getD j ⟨0, 0, 0⟩) j = 0) := by
            rcases hp with ⟨h, _, _⟩ | ⟨_, ⟨_, _, h⟩, _⟩ | ⟨_, h1, _, h2⟩
            · rw [HMay.out] at h; cases h
            · exact absurd rfl h
            · exact ⟨h2.trans HMU.out, h1.2.1⟩
          obtain ⟨rfl, hrr⟩ := hgot
          obtain ⟨a1, a2⟩ := hLast.out hrr
          obtain ⟨u1, u2⟩ := hTB.out a1 a2
          have hMo := hMon.out _ u1
          have HM2 := Lib.hid (fun W hW => money_ok W l A7 (n + 1) c7 _ F7.out hW HMay.out hrr)
          rw [HMU.out] at HM2
          clear hp hrr hTB hMon hMR hLast
          generalize takeU (2 * l.free) u ⟨t0, t0 + 1, hv⟩ = v at *
          go_wp2_with fail
          refine (HM1.out w12 (HS.out.below HB12.out)).mono ?_
          rintro e w13 ⟨rfl, hb⟩
          have HB13 : Hid (Below w.heap.size w w13) := HB12.out.trans (hb.mono HB12.out.size)
          have HX13 : Hid (w13.heap[w.heap.size]? = some (laO l)) := (hb.block w.heap.size (heap_lt HX12.out)).trans HX12.out
          have S13 := Lib.hid (S12.out.below hb)
          clear c0 c1 c2 hb
          obtain ⟨c0, c1, c2⟩ := box3 HX13.out
          go_wp2_with fail
          refine (HM2.out w13 S13.out).mono ?_
          rintro e w14 ⟨rfl, hb⟩
          have HB14 : Hid (Below w.heap.size w w14) := HB13.out.trans (hb.mono HB13.out.size)
          clear hb
          generalize monE l u = me at *
          generalize monE l v = ne at *
          generalize monV l u = mv at *
          generalize monV l v = nv at *
          have wv : IntKind.i64.wrap (u + 2) = u + 2 := IntWalk.i64_in _ (by omega)
          by_cases hme : me = 0
          · by_cases hne : ne = 0
            · have hle := hMo hme hne
              subst hme; subst hne
              clear hMo
              go_wp2_with fail
              go_ret
              exact ⟨rfl, HB14.out⟩
            · have hneb : (ne == 0) = false := by rw [beq_eq_false_iff_ne]; exact hne
              subst hme
              clear hMo
              go_wp2_with fail
              all_goals first
                | (go_ret; exact ⟨rfl, HB14.out⟩)
                | (exfalso; simp at hneb; done)
                | (exfalso; exact hne (by first | assumption | rfl))
          · have hmeb : (me == 0) = false := by rw [beq_eq_false_iff_ne]; exact hme
            clear hMo
            go_wp2_with fail
            all_goals first
              | (go_ret; exact ⟨rfl, HB14.out⟩)
              | (exfalso; simp at hmeb; done)
              | (exfalso; exact hme (by first | assumption | rfl))
        · have hyb : (y == 0) = false := by rw [beq_eq_false_iff_ne]; exact hy
          have hno : ¬ (0 ≤ hv ∧ hv ≤ 2 ∧ t0 < 1048576) := fun ⟨a1, a2, a3⟩ => by
            have hrr := hMR.out a1 a2 a3
            have hc : Chk (fun j => LL.getD j ⟨0, 0, 0⟩) (n + 1) (n + 1) 0 := ⟨Nat.le_refl _, hrr, .inl ⟨rfl, rfl⟩⟩
            rcases hp with ⟨h, _, _⟩ | ⟨_, ⟨_, h, _⟩, _⟩ | ⟨_, _, h, _⟩
            · rw [HMay.out] at h; cases h
            · exact hy (h.unique hc).2
            · exact hy h
          clear hp hy hTB hMon hMR hLast
          by_cases hv0 : hv < 0
          · go_wp2_with fail
            go_ret
            exact ⟨rfl, HB12.out⟩
          · by_cases hv2 : 2 < hv
            · go_wp2_with fail
              go_ret
              exact ⟨rfl, HB12.out⟩
            · obtain rfl : t0 = 1048576 := by omega
              go_wp2_with fail
              go_ret
              exact ⟨rfl, HB12.out⟩
      · have hxb : (x == 0) = false := by rw [beq_eq_false_iff_ne]; exact h0
        have H0 := Lib.hid h0
        clear h0
        go_wp2_with fail
        go_ret
        exact ⟨rfl, HB4.out⟩
end Go.Proofs.Ytpflojfdlmdmfaa
