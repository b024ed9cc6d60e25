/- The walk of TopLay: whatever the lay, the stretches and the hour, it returns true, and old memory is as it was. -/
import Derived.Test.YtpflojfdlmdmfaaTopS
import Derived.Test.YtpflojfdlmdmfaaSplit
import Derived.Test.YtpflojfdlmdmfaaRefCut
import Derived.Test.YtpflojfdlmdmfaaPlainM
import Derived.Test.YtpflojfdlmdmfaaNetE
import Derived.Deep.RegionLaw
import Derived.Deep.DeepCutAuto
namespace Go.Proofs.Ytpflojfdlmdmfaa
open Go.RowKit

/-- The bytes of an argument, cell by cell. -/
def ArgU8 (w : World) (A : Option Addr) (n : Nat) (zs : Nat → Int) : Prop := ∀ j, j < n → ∃ b o, A = some ⟨b, o, none⟩ ∧ b < w.heap.size ∧ w.cell? ⟨b, o + j, none⟩ = some (.int .u8 (zs j)) ∧ 0 ≤ zs j ∧ zs j ≤ 255
abbrev laB (l : La) : Obj := .cells #[.int .i64 l.free, .int .i64 l.late, .int .i64 l.soon] 25

theorem split_ok' {l : La} {m : Int} {ss : Nat → St} {n : Nat} {w w' : World} {e : Ending} (h : SplitPost l m ss n w e w') (hm : mayB l = true) (hr : ∀ j, j < n → wrongE ss j = 0) : e = .returned (.tuple #[.int .i64 (useN (2 * l.free) m ss n), .int .i64 ((runN (2 * l.free) ss n).1 - useN (2 * l.free) m ss n), .int .i64 0]) ∧ Below w.heap.size w w' := by
  have hc : Chk ss n n 0 := ⟨Nat.le_refl _, hr, .inl ⟨rfl, rfl⟩⟩
  obtain ⟨a, b, x, rfl, hb, h⟩ := h
  rcases h with ⟨hm', _⟩ | ⟨_, ⟨k, hk, h0⟩, _⟩ | ⟨_, _, rfl, rfl, rfl⟩
  · rw [hm] at hm'; cases hm'
  · exact absurd (hk.unique hc).2 h0
  · exact ⟨rfl, hb⟩

set_option maxRecDepth 100000 in
set_option maxHeartbeats 4000000 in
theorem top_any (w : World) (x0 x1 x2 x4 : Int) (A : Option Addr) (n c : Nat) (zs : Nat → Int) (h0 : 0 ≤ x0 ∧ x0 ≤ 255) (h1 : 0 ≤ x1 ∧ x1 ≤ 255) (h2 : 0 ≤ x2 ∧ x2 ≤ 255) (h4 : 0 ≤ x4 ∧ x4 ≤ 255) (hS : ArgU8 w A n zs) :
    Calls Try.prog 3 #[.int .u8 x0, .int .u8 x1, .int .u8 x2, .slice A n c, .int .u8 x4] w fun e w' => e = .returned (.bool true) ∧ Below w.heap.size w w' := by
  have HS := Lib.hid hS
  clear hS
  have w0 : IntKind.i64.wrap x0 = x0 := IntWalk.i64_in _ (by omega)
  have w1' : IntKind.i64.wrap x1 = x1 := IntWalk.i64_in _ (by omega)
  have w2' : IntKind.i64.wrap x2 = x2 := IntWalk.i64_in _ (by omega)
  have w4' : IntKind.i64.wrap x4 = x4 := IntWalk.i64_in _ (by omega)
  go_enter Try.func3, Try.ntmps3
  go_wp2_with fail
  refine (nets_any _).mono ?_
  rintro e w1 ⟨rfl, hb⟩
  have HB := Lib.hid hb
  clear hb
  by_cases h12 : 12 < n
  · have h12' : (12 : Int) < (n : Int) := by omega
    go_wp2_with fail
    refine (nets_any _).mono ?_
    rintro e w2 ⟨rfl, hb⟩
    have HB2 : Hid (Below w.heap.size w w2) := HB.out.trans (hb.mono HB.out.size)
    clear hb
    go_wp2_with fail
    go_ret
    exact ⟨rfl, HB2.out⟩
  have h12' : ¬ (12 : Int) < (n : Int) := by omega
  go_wp2_with fail
  go_loopw [12, 13, 48] (fun s hh i wr => ∃ k : Nat, k ≤ n ∧ i = .int .i64 k ∧ hh = .int .i64 (hour zs k) ∧ (∃ A n c, s = .slice A n c) ∧ RowS wr s (listN (stT zs) k) ∧ (∀ q, s.ownBlock = some q → w1.heap.size < q) ∧ Below w.heap.size w wr ∧ wr.heap[w1.heap.size]? = some (laB ⟨x0, x1, x2⟩)) (fun _ _ i _ => n - (intOf i).toNat)
  case atStart => exact ⟨0, by omega, rfl, rfl, ⟨_, _, _, rfl⟩, .inl ⟨rfl, rfl⟩, (fun q hq => by cases hq), HB.out.alloc HB.out.size _, heap_alloc_new w1 _⟩
  case round =>
    obtain ⟨k, hk, rfl, rfl, ⟨A1, n1, c1, rfl⟩, hr, ho, hb, hx⟩ := hrel
    have HR := Lib.hid hr
    have HO := Lib.hid ho
    have HBR := Lib.hid hb
    have HX := Lib.hid hx
    have hszr := hb.size
    have hltx := heap_lt hx
    clear hr ho hb hx
    by_cases hlt : k < n
    · have hlt' : (k : Int) < (n : Int) := by omega
      obtain ⟨b, o, rfl, q1, q2, z1, z2⟩ := HS.out k hlt
      have e1 := (HBR.out.cell (p := ⟨b, o + k, none⟩) q1).trans q2
      have hbd := hour_bnd zs k
      have hln := listN_length (stT zs) k
      have HSt : Hid (listN (stT zs) (k + 1) = listN (stT zs) k ++ [⟨hour zs k, hour zs k + 1 + zs k % 20, zs k % 3⟩]) := rfl
      have HHo : Hid (hour zs (k + 1) = hour zs k + 1 + zs k % 20) := rfl
      have HBn := Lib.hid (stT_bnd zs (k + 1) (by omega))
      have m20 : (zs k).tmod 20 = zs k % 20 := Int.tmod_eq_emod_of_nonneg z1
      have m3 : (zs k).tmod 3 = zs k % 3 := Int.tmod_eq_emod_of_nonneg z1
      have v0 : IntKind.i64.wrap (zs k) = zs k := IntWalk.i64_in _ (by omega)
      have v1 : IntKind.i64.wrap (zs k % 20) = zs k % 20 := IntWalk.i64_in _ (by omega)
      have v2 : IntKind.i64.wrap (zs k % 3) = zs k % 3 := IntWalk.i64_in _ (by omega)
      have v3 : IntKind.i64.wrap (hour zs k + 1) = hour zs k + 1 := IntWalk.i64_in _ (by omega)
      have v4 : IntKind.i64.wrap (hour zs k + 1 + zs k % 20) = hour zs k + 1 + zs k % 20 := IntWalk.i64_in _ (by omega)
      have HL := Lib.hid hlt
      clear q2 hlt
      go_wp2_with (at_builtin; refine Hid.out ?_)
      refine Lib.hid ?_
      refine wpList_append_st _ rfl (.tmp 52) (.tmp 64) rfl (.slice A1 n1 c1) _ rfl (HR.out.alloc _) (.slice (some ⟨wr.heap.size, 0, none⟩) 1 1) [⟨hour zs k, hour zs k + 1 + zs k % 20, zs k % 3⟩] rfl (reads_one (at_top rfl)) (by rw [hln]; simp; omega) ?_
      intro A2 c2 w2 hr2 hg2 ho2
      have HB2 : Hid (Below w.heap.size w w2) := (HBR.out.alloc HBR.out.size _).grown hg2 (by simp; omega) (fun q hq => by have := HO.out q hq; have := HB.out.size; omega)
      have HX2 : Hid (w2.heap[w1.heap.size]? = some (laB ⟨x0, x1, x2⟩)) := (hg2.block w1.heap.size (by simp; omega) (fun e => by have := HO.out _ e.symm; omega)).trans (up_c HX.out)
      have HO2 : Hid (∀ q, (Value.slice A2 (listN (stT zs) k ++ [(⟨hour zs k, hour zs k + 1 + zs k % 20, zs k % 3⟩ : St)]).length c2).ownBlock = some q → w1.heap.size < q) := fun q hq => by
        rcases ho2 with ho | ho
        · exact HO.out q (ho.symm.trans hq)
        · have := ho.symm.trans hq; simp at this; omega
      rw [← HSt.out] at hr2 HO2 ⊢
      have hl2 := listN_length (stT zs) (k + 1)
      obtain ⟨_, _, hst⟩ := hr2.sts HBn.out
      obtain ⟨b2, o2, hA2, _, _, ht2, _⟩ := hst k (by omega)
      subst hA2
      have hgd : ((listN (stT zs) (k + 1)).getD k ⟨0, 0, 0⟩) = stT zs k := listN_at _ _ _ (by omega)
      simp only [hgd] at ht2
      have ht2' : w2.cell? ⟨b2, o2 + k * 3 + 1, none⟩ = some (.int .i64 (hour zs (k + 1))) := ht2
      have HR2 := Lib.hid hr2
      rw [hl2] at HR2 HO2 ⊢
      clear hr2 hg2 ho2 hst ht2 hgd
      have i0 : 0 ≤ ((k + 1 : Nat) : Int) - 1 := by omega
      have i1 : (((k + 1 : Nat) : Int) - 1).toNat = k := by omega
      have i2 : ((k + 1 : Nat) : Int) - 1 < ((k + 1 : Nat) : Int) := by omega
      have i4 : IntKind.i64.wrap (((k + 1 : Nat) : Int) - 1) = (k : Int) := by rw [IntWalk.i64_in _ (by omega)]; omega
      have i5 : (k : Int) < ((k + 1 : Nat) : Int) := by omega
      go_wp2_with fail
      exact ⟨⟨k + 1, by have := HL.out; omega, by go_num, rfl, ⟨_, _, _, rfl⟩, HR2.out, HO2.out, HB2.out, HX2.out⟩, by have := HL.out; simp [intOf]; omega⟩
    · have hge : ¬ (k : Int) < (n : Int) := by omega
      obtain rfl : k = n := by omega
      have hln := listN_length (stT zs) k
      obtain ⟨en, fn, sn⟩ := HR.out.sts (stT_bnd zs k (by omega))
      obtain rfl : n1 = k := en.trans hln
      have hr : ∀ j, j < n1 → wrongE (fun j => (listN (stT zs) n1).getD j ⟨0, 0, 0⟩) j = 0 := fun j hj => stT_right zs n1 (by omega) j (by omega)
      have hmay : mayB ⟨x0, x1, x2⟩ = true := small_may h0 h1 h2
      obtain ⟨SS, hSS⟩ : ∃ SS : Nat → St, SS = fun j => (listN (stT zs) n1).getD j ⟨0, 0, 0⟩ := ⟨_, rfl⟩
      rw [← hSS] at sn hr
      have HMay := Lib.hid hmay
      have HRt := Lib.hid hr
      have HSn := Lib.hid sn
      have HFn := Lib.hid fn
      have hfit := runN_fits (F := 2 * x0) hr n1 (Nat.le_refl _)
      have HCU := Lib.hid (fun (m : Int) => cut_used (2 * x0) m hr)
      have HCR := Lib.hid (fun (m : Int) => cut_right m hr (by omega))
      have HAU := Lib.hid (fun (m : Int) => cutA_used (2 * x0) m hr)
      have HAR := Lib.hid (fun (m : Int) => cutA_right m hr (by omega))
      have hub := useN_bounds (F := 2 * x0) (m := x4) hr n1 (Nat.le_refl _)
      have hle : useN (2 * x0) x4 SS n1 ≤ (runN (2 * x0) SS n1).1 := by
        rw [runN_use hr]
        exact useN_mono _ (by omega) hr
      have hub0 := hub.1
      clear hub hln en fn sn hmay hr hSS hlt hge
      have hge : ¬ (n1 : Int) < (n1 : Int) := by omega
      obtain ⟨b0, b1, b2⟩ := box3 HX.out
      have HSp : Hid (Calls Try.prog 10 #[laV ⟨x0, x1, x2⟩, .int .i64 x4, .slice A1 n1 c1] wr fun e w' => e = .returned (.tuple #[.int .i64 (useN (2 * x0) x4 SS n1), .int .i64 ((runN (2 * x0) SS n1).1 - useN (2 * x0) x4 SS n1), .int .i64 0]) ∧ Below wr.heap.size wr w') :=
        (split_any wr ⟨x0, x1, x2⟩ x4 A1 n1 c1 SS HFn.out (by unfold i64b; omega) HSn.out).mono fun e w' h => split_ok' h HMay.out HRt.out
      have HUs : Hid (∀ W, Sts W A1 n1 SS → Calls Try.prog 11 #[laV ⟨x0, x1, x2⟩, .slice A1 n1 c1] W fun e w' => e = .returned (.tuple #[.int .i64 (runN (2 * x0) SS n1).1, .int .i64 0]) ∧ Below W.heap.size W w') :=
        fun W hW => (used_any W ⟨x0, x1, x2⟩ A1 n1 c1 SS HFn.out hW).mono fun e w' h => used_ok2 h HMay.out HRt.out
      have HUa : Hid (∀ W A k c, k ≤ maxLen → k = (cutA x4 SS n1 ++ cutB x4 SS n1).length → Sts W A k (fun j => (cutA x4 SS n1 ++ cutB x4 SS n1).getD j ⟨0, 0, 0⟩) → Calls Try.prog 11 #[laV ⟨x0, x1, x2⟩, .slice A k c] W fun e w' => e = .returned (.tuple #[.int .i64 (runN (2 * x0) SS n1).1, .int .i64 0]) ∧ Below W.heap.size W w') :=
        fun W A k c hk hl hW => (used_any W ⟨x0, x1, x2⟩ A k c _ hk hW).mono fun e w' h => by
          subst hl
          have := used_ok2 h HMay.out (HCR.out x4)
          rw [show (runN (2 * (⟨x0, x1, x2⟩ : La).free) (fun j => (cutA x4 SS n1 ++ cutB x4 SS n1).getD j ⟨0, 0, 0⟩) (cutA x4 SS n1 ++ cutB x4 SS n1).length).1 = _ from HCU.out x4] at this
          exact this
      have HUf : Hid (∀ W A k c, k ≤ maxLen → k = (cutA x4 SS n1).length → Sts W A k (fun j => (cutA x4 SS n1).getD j ⟨0, 0, 0⟩) → Calls Try.prog 11 #[laV ⟨x0, x1, x2⟩, .slice A k c] W fun e w' => e = .returned (.tuple #[.int .i64 (useN (2 * x0) x4 SS n1), .int .i64 0]) ∧ Below W.heap.size W w') :=
        fun W A k c hk hl hW => (used_any W ⟨x0, x1, x2⟩ A k c _ hk hW).mono fun e w' h => by
          subst hl
          have := used_ok2 h HMay.out (HAR.out x4)
          rw [show (runN (2 * (⟨x0, x1, x2⟩ : La).free) (fun j => (cutA x4 SS n1).getD j ⟨0, 0, 0⟩) (cutA x4 SS n1).length).1 = _ from HAU.out x4] at this
          exact this
      have hsm : ∀ u : Int, 0 ≤ u ∧ u ≤ 4194304 → monE ⟨x0, x1, x2⟩ u = 0 := fun u hu => monE_small (l := ⟨x0, x1, x2⟩) h0 h1 h2 hu
      have HMo : Hid (∀ W, Sts W A1 n1 SS → Calls Try.prog 13 #[laV ⟨x0, x1, x2⟩, .slice A1 n1 c1] W fun e w' => e = .returned (.tuple #[.int .i64 (monV ⟨x0, x1, x2⟩ (runN (2 * x0) SS n1).1), .int .i64 0]) ∧ Below W.heap.size W w') :=
        fun W hW => (money_ok W ⟨x0, x1, x2⟩ A1 n1 c1 SS HFn.out hW HMay.out HRt.out).mono fun e w' h => by
          rw [hsm _ hfit] at h; exact h
      have HMf : Hid (∀ W A k c, k ≤ maxLen → k = (cutA x4 SS n1).length → Sts W A k (fun j => (cutA x4 SS n1).getD j ⟨0, 0, 0⟩) → Calls Try.prog 13 #[laV ⟨x0, x1, x2⟩, .slice A k c] W fun e w' => e = .returned (.tuple #[.int .i64 (monV ⟨x0, x1, x2⟩ (useN (2 * x0) x4 SS n1)), .int .i64 0]) ∧ Below W.heap.size W w') :=
        fun W A k c hk hl hW => by
          subst hl
          refine (money_ok W ⟨x0, x1, x2⟩ A _ c _ hk hW HMay.out (HAR.out x4)).mono fun e w' h => ?_
          rw [show (runN (2 * (⟨x0, x1, x2⟩ : La).free) (fun j => (cutA x4 SS n1).getD j ⟨0, 0, 0⟩) (cutA x4 SS n1).length).1 = _ from HAU.out x4, hsm _ ⟨hub0, by omega⟩] at h
          exact h
      have hmon : monV ⟨x0, x1, x2⟩ (useN (2 * x0) x4 SS n1) ≤ monV ⟨x0, x1, x2⟩ (runN (2 * x0) SS n1).1 := monV_mono HMay.out hle (hsm _ ⟨hub0, by omega⟩) (hsm _ hfit)
      have hca := cutA_len x4 SS n1
      have hcb := cutB_len x4 SS n1
      have HBd := Lib.hid (cutA_bnd x4 (by unfold i64b; omega) n1 HSn.out.bnd')
      clear HCU HCR HAU HAR hsm
      generalize (runN (2 * x0) SS n1).1 = u at *
      generalize useN (2 * x0) x4 SS n1 = v at *
      generalize monV ⟨x0, x1, x2⟩ u = mu at *
      generalize monV ⟨x0, x1, x2⟩ v = mv at *
      have wuv : IntKind.i64.wrap (v + (u - v)) = u := by rw [IntWalk.i64_in _ (by omega)]; omega
      go_wp2_with fail
      refine HSp.out.mono ?_
      rintro e w2 ⟨rfl, hb⟩
      have HB2 : Hid (Below w.heap.size w w2) := HBR.out.trans (hb.mono HBR.out.size)
      have HX2 : Hid (w2.heap[w1.heap.size]? = some (laB ⟨x0, x1, x2⟩)) := (hb.block w1.heap.size hltx).trans HX.out
      have HS2 := Lib.hid (HSn.out.below hb)
      clear hb b0 b1 b2
      obtain ⟨b0, b1, b2⟩ := box3 HX2.out
      go_wp2_with fail
      refine (HUs.out w2 HS2.out).mono ?_
      rintro e w3 ⟨rfl, hb⟩
      have HB3 : Hid (Below w.heap.size w w3) := HB2.out.trans (hb.mono HB2.out.size)
      have HX3 : Hid (w3.heap[w1.heap.size]? = some (laB ⟨x0, x1, x2⟩)) := (hb.block w1.heap.size (heap_lt HX2.out)).trans HX2.out
      have HS3 := Lib.hid (HS2.out.below hb)
      clear hb b0 b1 b2
      go_wp2_with fail
      refine (cut_any w3 x4 A1 n1 c1 SS (by omega) HS3.out).mono ?_
      rintro e w4 ⟨A2, k2, c2, A3, k3, c3, rfl, r2, r3, hb⟩
      have HB4 : Hid (Below w.heap.size w w4) := HB3.out.trans (hb.mono HB3.out.size)
      have HX4 : Hid (w4.heap[w1.heap.size]? = some (laB ⟨x0, x1, x2⟩)) := (hb.block w1.heap.size (heap_lt HX3.out)).trans HX3.out
      have HS4 := Lib.hid (HS3.out.below hb)
      obtain ⟨e2, f2, s2⟩ := r2.sts HBd.out.1
      have R2 := Lib.hid r2
      have R3 := Lib.hid r3
      have E2 := Lib.hid e2
      have F2 := Lib.hid f2
      have S2 := Lib.hid s2
      obtain ⟨b0, b1, b2⟩ := box3 HX4.out
      have hlt4 := heap_lt HX4.out
      have hsz4 := HB4.out.size
      clear hb r2 r3 e2 f2 s2
      go_upto_region 17 with fail
      go_cut [23, 24] (fun s t wx => s = .int .i64 u ∧ t = .int .i64 0 ∧ Below w4.heap.size w4 wx)
      case first =>
        go_region_law (first
          | (refine step_append_st _ rfl (.tmp 111) (.tmp 112) rfl (.slice (some ⟨w4.heap.size, 0, none⟩) 0 0) [] ?he1a ?hr1a (.slice A2 k2 c2) (cutA x4 SS n1) ?he2a ?hr2a ?h63a ?_
             case he1a => kernel_rfl
             case he2a => kernel_rfl
             case hr1a => exact rowS_empty _ _ (at_top_d rfl)
             case hr2a => exact (R2.out.alloc _).reads
             case h63a => simp; omega
             intro A4 c4 w5 hr5 hg5 ho5
             simp only [List.nil_append] at hr5 ho5 ⊢
             have HR5 := Lib.hid hr5
             have HO5 : Hid (∀ q, (Value.slice A4 (cutA x4 SS n1).length c4).ownBlock = some q → w4.heap.size ≤ q) := fun q hq => by
               rcases ho5 with ho | ho
               · have hk' := ho.symm.trans hq
                 simp [Value.ownBlock] at hk'; omega
               · have hk' := ho.symm.trans hq
                 simp at hk'; omega
             have HB5 : Hid (Below w4.heap.size w4 w5) := ((Below.refl _ w4).alloc (Nat.le_refl _) (.cells #[] 28)).drew.grown hg5 (by simp) (fun q hq => by simp [Value.ownBlock] at hq; omega)
             have R35 : Hid (RowS w5 (.slice A3 k3 c3) (cutB x4 SS n1)) := R3.out.below HB5.out
             obtain ⟨f0, f1, f2⟩ := box3 ((HB5.out.block w1.heap.size hlt4).trans HX4.out)
             have hsz5 := HB5.out.size
             clear hr5 hg5 ho5)
          | (refine step_append_st _ rfl (.tmp 113) (.tmp 114) rfl (.slice A4 (cutA x4 SS n1).length c4) (cutA x4 SS n1) ?he1b ?hr1b (.slice A3 k3 c3) (cutB x4 SS n1) ?he2b ?hr2b ?h63b ?_
             case he1b => kernel_rfl
             case he2b => kernel_rfl
             case hr1b => exact HR5.out
             case hr2b => exact R35.out.reads
             case h63b => omega
             intro A5 c5 w6 hr6 hg6 ho6
             have HB6 : Hid (Below w4.heap.size w4 w6) := HB5.out.grown hg6 hsz5 HO5.out
             obtain ⟨e6, f6, s6⟩ := hr6.sts (fun x hx => by
               rcases List.mem_append.1 hx with hx | hx
               · exact HBd.out.1 x hx
               · exact HBd.out.2 x hx)
             obtain ⟨KL, hKL⟩ : ∃ KL, KL = (cutA x4 SS n1 ++ cutB x4 SS n1).length := ⟨_, rfl⟩
             rw [← hKL] at f6 s6 ⊢
             have HKL := Lib.hid hKL
             have F6 := Lib.hid f6
             have S6 := Lib.hid s6
             obtain ⟨g0, g1, g2⟩ := box3 ((HB6.out.block w1.heap.size hlt4).trans HX4.out)
             clear hr6 hg6 ho6 e6 f6 s6 hsz5 hKL)
          | (go_simp
             go_at_call 11
             refine (HUa.out w6 A5 KL c5 F6.out HKL.out S6.out).mono ?_
             rintro e w7 ⟨rfl, hb7⟩
             have HB7 : Hid (Below w4.heap.size w4 w7) := HB6.out.trans (hb7.mono HB6.out.size)
             clear hb7
             dsimp only))
        all_goals (go_wp2_with fail; go_meet)
        all_goals exact ⟨rfl, rfl, HB7.out⟩
      case rest =>
        obtain ⟨rfl, rfl, hb⟩ := hcut
        have HB5 : Hid (Below w.heap.size w wc) := HB4.out.trans (hb.mono hsz4)
        have HX5 : Hid (wc.heap[w1.heap.size]? = some (laB ⟨x0, x1, x2⟩)) := (hb.block w1.heap.size hlt4).trans HX4.out
        have HS5 := Lib.hid (HS4.out.below hb)
        have S5 := Lib.hid (S2.out.below hb)
        clear hb b0 b1 b2
        obtain ⟨b0, b1, b2⟩ := box3 HX5.out
        go_wp2_with fail
        refine (HUf.out wc A2 k2 c2 F2.out E2.out S5.out).mono ?_
        rintro e w6 ⟨rfl, hb⟩
        have HB6 : Hid (Below w.heap.size w w6) := HB5.out.trans (hb.mono HB5.out.size)
        have HX6 : Hid (w6.heap[w1.heap.size]? = some (laB ⟨x0, x1, x2⟩)) := (hb.block w1.heap.size (heap_lt HX5.out)).trans HX5.out
        have HS6 := Lib.hid (HS5.out.below hb)
        have S6 := Lib.hid (S5.out.below hb)
        clear hb b0 b1 b2
        obtain ⟨b0, b1, b2⟩ := box3 HX6.out
        go_wp2_with fail
        refine (HMo.out w6 HS6.out).mono ?_
        rintro e w7 ⟨rfl, hb⟩
        have HB7 : Hid (Below w.heap.size w w7) := HB6.out.trans (hb.mono HB6.out.size)
        have HX7 : Hid (w7.heap[w1.heap.size]? = some (laB ⟨x0, x1, x2⟩)) := (hb.block w1.heap.size (heap_lt HX6.out)).trans HX6.out
        have S7 := Lib.hid (S6.out.below hb)
        clear hb b0 b1 b2
        obtain ⟨b0, b1, b2⟩ := box3 HX7.out
        go_wp2_with fail
        refine (HMf.out w7 A2 k2 c2 F2.out E2.out S7.out).mono ?_
        rintro e w8 ⟨rfl, hb⟩
        have HB8 : Hid (Below w.heap.size w w8) := HB7.out.trans (hb.mono HB7.out.size)
        clear hb b0 b1 b2
        go_wp2_with fail
        go_ret
        exact ⟨rfl, HB8.out⟩
end Go.Proofs.Ytpflojfdlmdmfaa
