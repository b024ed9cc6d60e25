/- The walk of LayCuts: whatever the lay, the stretches and the hour, it returns true, and old memory is as it was. -/
import Derived.Test.YtpflojfdlmdmfaaPlainC
import Derived.Test.YtpflojfdlmdmfaaRefC
import Derived.Test.YtpflojfdlmdmfaaExp
import Derived.Test.YtpflojfdlmdmfaaMayEq
import Derived.Test.YtpflojfdlmdmfaaRefCut
namespace Go.Proofs.Ytpflojfdlmdmfaa
open Go.RowKit

theorem used_ok {l : La} {ss : Nat → St} {n : Nat} {w w' : World} {e : Ending} (h : UsedPost l ss n w e w') (hm : mayB l = true) (hr : ∀ j, j < n → wrongE ss j = 0) : e = .returned (.tuple #[.int .i64 (runN (2 * l.free) ss n).1, .int .i64 0]) ∧ Below w.heap.size w w' := by
  have hc : Chk ss n n 0 := ⟨Nat.le_refl _, hr, .inl ⟨rfl, rfl⟩⟩
  obtain ⟨u, x, rfl, hb, h⟩ := h
  rcases h with ⟨hm', _⟩ | ⟨_, ⟨k, hk, h0⟩, _⟩ | ⟨_, _, rfl, rfl⟩
  · rw [hm] at hm'; cases hm'
  · exact absurd (hk.unique hc).2 h0
  · exact ⟨rfl, hb⟩
theorem check_ok {ss : Nat → St} {n : Nat} {w w' : World} {e : Ending} (h : CheckPost ss n w e w') (hr : ∀ j, j < n → wrongE ss j = 0) : e = .returned (.tuple #[.int .i64 n, .int .i64 0]) ∧ Below w.heap.size w w' := by
  have hc : Chk ss n n 0 := ⟨Nat.le_refl _, hr, .inl ⟨rfl, rfl⟩⟩
  obtain ⟨k, x, rfl, h, hb⟩ := h
  obtain ⟨rfl, rfl⟩ := h.unique hc
  exact ⟨rfl, hb⟩
theorem Sts.bnd {w : World} {A : Option Addr} {n : Nat} {ss : Nat → St} (h : Sts w A n ss) : ∀ j, j < n → i64b (ss j).f ∧ i64b (ss j).t ∧ i64b (ss j).h := fun j hj => by
  obtain ⟨_, _, _, _, _, _, _, h⟩ := h j hj
  exact h

set_option maxRecDepth 100000 in
set_option maxHeartbeats 4000000 in
theorem layCuts_any (w : World) (l : La) (A : Option Addr) (n c : Nat) (m : Int) (ss : Nat → St) (hn : n ≤ maxLen) (hm : i64b m) (hS : Sts w A n ss) :
    Calls Try.prog 5 #[laV l, .slice A n c, .int .i64 m] w fun e w' => e = .returned (.bool true) ∧ Below w.heap.size w w' := by
  have HS := Lib.hid hS
  have HN := Lib.hid hn
  have HM := Lib.hid hm
  unfold maxLen at hn
  clear hS hm
  go_enter Try.func5, Try.ntmps5
  go_wp2_with fail
  refine (awake_any _).mono ?_
  rintro e w1 ⟨rfl, hb⟩
  have HB : Hid (Below w.heap.size w w1) := ((Below.refl _ w).alloc (Nat.le_refl _) (laO l)).trans (hb.mono (by simp))
  have HX : Hid (w1.heap[w.heap.size]? = some (laO l)) := (hb.block w.heap.size (by simp)).trans (heap_alloc_new w (laO l))
  clear hb
  by_cases h60 : 30 < n
  · have h60' : (30 : Int) < (n : Int) := by omega
    go_wp2_with fail
    go_ret
    exact ⟨rfl, HB.out⟩
  · have h60' : ¬ (30 : Int) < (n : Int) := by omega
    go_wp2_with fail
    refine (long_any w1 A n c 2000 ss HN.out (HS.out.below HB.out)).mono ?_
    rintro e w2 ⟨rfl, hb⟩
    have HB2 : Hid (Below w.heap.size w w2) := HB.out.trans (hb.mono HB.out.size)
    have HX2 : Hid (w2.heap[w.heap.size]? = some (laO l)) := (hb.block w.heap.size (heap_lt HX.out)).trans HX.out
    clear hb
    cases hlb : longB ss n 2000 with
    | true =>
      go_wp2_with fail
      go_ret
      exact ⟨rfl, HB2.out⟩
    | false =>
      go_wp2_with fail
      refine (cut_any w2 m A n c ss (by omega) (HS.out.below HB2.out)).mono ?_
      rintro e w3 ⟨A1, k1, c1, A2, k2, c2, rfl, r1, r2, hb⟩
      have HB3 : Hid (Below w.heap.size w w3) := HB2.out.trans (hb.mono HB2.out.size)
      have HX3 : Hid (w3.heap[w.heap.size]? = some (laO l)) := (hb.block w.heap.size (heap_lt HX2.out)).trans HX2.out
      have R1 := Lib.hid r1
      have R2 := Lib.hid r2
      clear hb r1 r2
      go_wp2_with fail
      refine (refcut_any w3 m A n c ss (by omega) (HS.out.below HB3.out)).mono ?_
      rintro e w4 ⟨A3, k3, c3, A4, k4, c4, rfl, r3, r4, hb⟩
      have HB4 : Hid (Below w.heap.size w w4) := HB3.out.trans (hb.mono HB3.out.size)
      have HX4 : Hid (w4.heap[w.heap.size]? = some (laO l)) := (hb.block w.heap.size (heap_lt HX3.out)).trans HX3.out
      have R1' : Hid (RowS w4 (.slice A1 k1 c1) (cutA m ss n)) := R1.out.below hb
      have R2' : Hid (RowS w4 (.slice A2 k2 c2) (cutB m ss n)) := R2.out.below hb
      have R3 := Lib.hid r3
      have R4 := Lib.hid r4
      obtain ⟨i1, i2⟩ := cutA_bnd m HM.out n HS.out.bnd
      obtain ⟨e1, f1, s1⟩ := R1'.out.sts i1
      obtain ⟨e2, f2, s2⟩ := R2'.out.sts i2
      obtain ⟨e3, f3, s3⟩ := r3.sts i1
      obtain ⟨e4, f4, s4⟩ := r4.sts i2
      have hla := cutA_len m ss n
      have hlb' := cutB_len m ss n
      obtain rfl : k3 = k1 := e3.trans e1.symm
      obtain rfl : k4 = k2 := e4.trans e2.symm
      have I1 := Lib.hid i1
      have I2 := Lib.hid i2
      have S1 := Lib.hid s1
      have S2 := Lib.hid s2
      have S3 := Lib.hid s3
      have S4 := Lib.hid s4
      have E1 := Lib.hid e1
      have E2 := Lib.hid e2
      have hk1 : k3 ≤ 1000 := by omega
      have hk2 : k4 ≤ 1000 := by omega
      clear hb r3 r4 R1 R2 i1 i2 s1 s2 s3 s4 e1 e2 e3 e4 f1 f2 f3 f4 hla hlb'
      go_wp2_with fail
      refine (same_eq w4 A1 A3 k3 c1 c3 _ (by omega) S1.out S3.out).mono ?_
      rintro e w5 ⟨rfl, hb⟩
      have HB5 : Hid (Below w.heap.size w w5) := HB4.out.trans (hb.mono HB4.out.size)
      have HX5 : Hid (w5.heap[w.heap.size]? = some (laO l)) := (hb.block w.heap.size (heap_lt HX4.out)).trans HX4.out
      have HW5 : Hid (Below w4.heap.size w4 w5) := hb
      clear hb
      go_wp2_with fail
      refine (same_eq w5 A2 A4 k4 c2 c4 _ (by omega) (S2.out.below HW5.out) (S4.out.below HW5.out)).mono ?_
      rintro e w6 ⟨rfl, hb⟩
      have HB6 : Hid (Below w.heap.size w w6) := HB5.out.trans (hb.mono HB5.out.size)
      have HX6 : Hid (w6.heap[w.heap.size]? = some (laO l)) := (hb.block w.heap.size (heap_lt HX5.out)).trans HX5.out
      have HW6 : Hid (Below w4.heap.size w4 w6) := HW5.out.trans (hb.mono HW5.out.size)
      clear hb
      go_wp2_with fail
      refine (refcheck_any w6 A n c ss HN.out (HS.out.below HB6.out)).mono ?_
      rintro e w7 ⟨k, x, rfl, hk, hb⟩
      have HK := Lib.hid hk
      have HB7 : Hid (Below w.heap.size w w7) := HB6.out.trans (hb.mono HB6.out.size)
      have HX7 : Hid (w7.heap[w.heap.size]? = some (laO l)) := (hb.block w.heap.size (heap_lt HX6.out)).trans HX6.out
      have HW7 : Hid (Below w4.heap.size w4 w7) := HW6.out.trans (hb.mono HW6.out.size)
      obtain ⟨b0, b1, b2⟩ := box3 HX7.out
      clear hb hk
      by_cases h0 : x = 0
      · subst h0
        go_wp2_with fail
        refine (refmay_eq _ l).mono ?_
        rintro e w8 ⟨rfl, rfl⟩
        cases hmay : mayB l with
        | false =>
          go_wp2_with fail
          go_ret
          exact ⟨rfl, HB7.out.alloc HB7.out.size _⟩
        | true =>
          have hr := chk_ok (l := l) (.inr ⟨hmay, k, HK.out⟩)
          have HR := Lib.hid hr.2.2.1
          have HMay := Lib.hid hmay
          have HW8 : Hid (Below w4.heap.size w4 (w7.alloc (laO l))) := HW7.out.alloc HW7.out.size _
          have R1'' := Lib.hid (R1'.out.below HW8.out)
          have R2'' := Lib.hid (R2'.out.below HW8.out)
          have hsz := HB7.out.size
          have hsx := heap_lt HX7.out
          clear hr hmay
          go_wp2_with (first
            | (at_builtin
               refine wpList_append_st _ rfl (.tmp 63) (.tmp 64) rfl (.slice (some ⟨w7.heap.size + 1, 0, none⟩) 0 0) [] rfl (rowS_empty _ _ (at_top (by simp))) (.slice A1 k3 c1) (cutA m ss n) rfl (R1''.out.alloc _).reads (by have := E1.out; simp; omega) ?_
               intro A6 c6 w9 hr9 hg9 ho9
               simp only [List.nil_append] at hr9 ho9 ⊢
               have hp9 : ∀ k, (Value.slice A6 (cutA m ss n).length c6).ownBlock = some k → w.heap.size < k := fun k hk => by
                 rcases ho9 with ho | ho <;> (rw [ho] at hk; simp [Value.ownBlock] at hk; omega)
               have HP9 := Lib.hid hp9
               have HB9 : Hid (Below w.heap.size w w9) := ((HB7.out.alloc HB7.out.size (laO l)).alloc (by simp; omega) (.cells #[] 28)).grown hg9 (by simp; omega) (fun k hk => by simp [Value.ownBlock] at hk; omega)
               have HX9 : Hid (w9.heap[w.heap.size]? = some (laO l)) := (hg9.block _ (by simp; omega) (by simp [Value.ownBlock]; omega)).trans (up' (up' HX7.out))
               have R29 : Hid (RowS w9 (.slice A2 k4 c2) (cutB m ss n)) := (R2''.out.alloc _).grown hg9 (.inr fun e => by have := R2''.out.lt _ e; simp at this)
               have R19 := Lib.hid hr9
               have hsz9 := HB9.out.size
               clear hg9 ho9 hr9 hp9)
            | (at_builtin
               refine wpList_append_st _ rfl (.tmp 65) (.tmp 66) rfl (.slice A6 (cutA m ss n).length c6) (cutA m ss n) rfl R19.out (.slice A2 k4 c2) (cutB m ss n) rfl R29.out.reads (by have h1 := E1.out; have h2 := E2.out; omega) ?_
               intro A7 c7 w10 hr10 hg10 _
               have HB10 : Hid (Below w.heap.size w w10) := HB9.out.grown hg10 HB9.out.size (fun k hk => Nat.le_of_lt (HP9.out k hk))
               have HX10 : Hid (w10.heap[w.heap.size]? = some (laO l)) := (hg10.block _ (heap_lt HX9.out) (fun e => by have := HP9.out _ e.symm; omega)).trans HX9.out
               have R10 := Lib.hid hr10
               obtain ⟨c0, c1', c2'⟩ := box3 HX10.out
               obtain ⟨e10, f10, s10⟩ := hr10.sts (fun x hx => by
                 rcases List.mem_append.1 hx with hx | hx
                 · exact I1.out x hx
                 · exact I2.out x hx)
               have F10 := Lib.hid f10
               have S10 := Lib.hid s10
               have hR := cut_right m HR.out (by omega)
               have hU := cut_used (2 * l.free) m HR.out
               have RR := Lib.hid hR
               have UU := Lib.hid hU
               clear hr10 hg10 e10 f10 s10 hR hU
               generalize cutA m ss n ++ cutB m ss n = LL at *))
          refine ((used_any w10 l A n c ss HN.out (HS.out.below HB10.out)).mono fun e w' h => used_ok h HMay.out HR.out).mono ?_
          rintro e w11 ⟨rfl, hb⟩
          have HB11 : Hid (Below w.heap.size w w11) := HB10.out.trans (hb.mono HB10.out.size)
          have HX11 : Hid (w11.heap[w.heap.size]? = some (laO l)) := (hb.block w.heap.size (heap_lt HX10.out)).trans HX10.out
          have S11 := Lib.hid (S10.out.below hb)
          obtain ⟨d0, d1', d2'⟩ := box3 HX11.out
          clear hb
          go_wp2_with fail
          refine ((used_any w11 l A7 LL.length c7 _ F10.out S11.out).mono fun e w' h => used_ok h HMay.out RR.out).mono ?_
          rintro e w12 ⟨rfl, hb⟩
          rw [UU.out]
          have HB12 : Hid (Below w.heap.size w w12) := HB11.out.trans (hb.mono HB11.out.size)
          have S12 := Lib.hid (S11.out.below hb)
          clear hb
          go_wp2_with fail
          refine ((check_any w12 A7 LL.length c7 _ F10.out S12.out).mono fun e w' h => check_ok h RR.out).mono ?_
          rintro e w13 ⟨rfl, hb⟩
          have HB13 : Hid (Below w.heap.size w w13) := HB12.out.trans (hb.mono HB12.out.size)
          clear hb
          go_wp2_with fail
          go_ret
          exact ⟨rfl, HB13.out⟩
      · have hxb : (x == 0) = false := by rw [beq_eq_false_iff_ne]; exact h0
        have H0 := Lib.hid h0
        clear h0
        go_wp2_with fail
        go_ret
        exact ⟨rfl, HB7.out⟩
end Go.Proofs.Ytpflojfdlmdmfaa
