/- The walks of the document's Cut and Same. -/
import Derived.Test.YtpflojfdlmdmfaaCut
namespace Go.Proofs.Ytpflojfdlmdmfaa
open Go.RowKit

/-- Two slices of the call's own. -/
structure Pair (w : World) (B : Nat) (va : Value) (la : List St) (vb : Value) (lb : List St) : Prop where
  ra : RowS w va la
  rb : RowS w vb lb
  oa : ∀ k, va.ownBlock = some k → B ≤ k
  ob : ∀ k, vb.ownBlock = some k → B ≤ k
  ne : va.ownBlock = none ∨ va.ownBlock ≠ vb.ownBlock
section
variable {w : World} {B : Nat} {va vb : Value} {la lb : List St}
theorem Pair.alloc (h : Pair w B va la vb lb) (o : Obj) : Pair (w.alloc o) B va la vb lb := ⟨h.ra.alloc o, h.rb.alloc o, h.oa, h.ob, h.ne⟩
theorem Pair.putA (h : Pair w B va la vb lb) (hB : B ≤ w.heap.size) {w1 : World} (hg : w.grownBy w1 va.ownBlock) {v' : Value} {l' : List St} (hr : RowS w1 v' l') (ho : v'.ownBlock = va.ownBlock ∨ v'.ownBlock = some w.heap.size) : Pair w1 B v' l' vb lb := by
  have oa' : ∀ k, v'.ownBlock = some k → B ≤ k := fun k hk => by
    rcases ho with ho | ho
    · exact h.oa k (ho.symm.trans hk)
    · rw [ho] at hk; injection hk with hk; omega
  have nev : vb.ownBlock = none ∨ vb.ownBlock ≠ va.ownBlock := by
    rcases h.ne with e | e
    · cases hb : vb.ownBlock with
      | none => exact .inl rfl
      | some k => exact .inr (by rw [e]; exact fun h => by cases h)
    · exact .inr fun e' => e e'.symm
  refine ⟨hr, h.rb.grown hg nev, oa', h.ob, ?_⟩
  rcases ho with ho | ho
  · rw [ho]; exact h.ne
  · refine .inr fun e => ?_
    have := h.rb.lt w.heap.size (e.symm.trans ho)
    omega
theorem Pair.putB (h : Pair w B va la vb lb) (hB : B ≤ w.heap.size) {w1 : World} (hg : w.grownBy w1 vb.ownBlock) {v' : Value} {l' : List St} (hr : RowS w1 v' l') (ho : v'.ownBlock = vb.ownBlock ∨ v'.ownBlock = some w.heap.size) : Pair w1 B va la v' l' := by
  have ob' : ∀ k, v'.ownBlock = some k → B ≤ k := fun k hk => by
    rcases ho with ho | ho
    · exact h.ob k (ho.symm.trans hk)
    · rw [ho] at hk; injection hk with hk; omega
  refine ⟨h.ra.grown hg h.ne, hr, h.oa, ob', ?_⟩
  rcases ho with ho | ho
  · rw [ho]; exact h.ne
  · cases hva : va.ownBlock with
    | none => exact .inl rfl
    | some k =>
      refine .inr fun e => ?_
      have h1 := h.ra.lt w.heap.size (hva.trans (e.trans ho))
      omega
end

theorem rowS_empty (w : World) (b : Nat) (h : w.heap[b]? = some (.cells #[] 28 (0, 0))) : RowS w (.slice (some ⟨b, 0, none⟩) 0 0) [] := .inr ⟨b, 0, #[], rfl, h, Nat.le_refl _, by simp, by simp [maxLen], rfl⟩

set_option maxRecDepth 100000 in
set_option maxHeartbeats 4000000 in
theorem refcut_any (w : World) (m : Int) (A : Option Addr) (n c : Nat) (ss : Nat → St) (hn : n ≤ 1000000) (hS : Sts w A n ss) :
    Calls Try.prog 22 #[.slice A n c, .int .i64 m] w (CutPost m ss n w) := by
  have HS := Lib.hid hS
  have HP0 : Hid (Pair ((w.alloc (.cells #[] 28)).alloc (.cells #[] 28)) w.heap.size (.slice (some ⟨w.heap.size, 0, none⟩) 0 0) [] (.slice (some ⟨w.heap.size + 1, 0, none⟩) 0 0) []) :=
    ⟨rowS_empty _ _ (up' (at_top rfl)), rowS_empty _ _ (at_top (by simp)), (fun k hk => by simp [Value.ownBlock] at hk; omega), (fun k hk => by simp [Value.ownBlock] at hk; omega), .inr fun h => by simp [Value.ownBlock] at h⟩
  clear hS
  go_enter Try.func22, Try.ntmps22
  go_wp2_with fail
  go_loopw [6, 7, 8] (fun va vb i wr => ∃ k : Nat, k ≤ n ∧ i = .int .i64 k ∧ (∃ A n c, va = .slice A n c) ∧ (∃ A n c, vb = .slice A n c) ∧ Pair wr w.heap.size va (cutA m ss k) vb (cutB m ss k) ∧ Below w.heap.size w wr) (fun _ _ i _ => n - (intOf i).toNat)
  case atStart => exact ⟨0, by omega, rfl, ⟨_, _, _, rfl⟩, ⟨_, _, _, rfl⟩, HP0.out, ((Below.refl _ w).alloc (Nat.le_refl _) _).alloc (by simp) _⟩
  case round =>
    obtain ⟨k, hk, rfl, ⟨A1, n1, c1, rfl⟩, ⟨A2, n2, c2, rfl⟩, hp, hb⟩ := hrel
    have HP := Lib.hid hp
    have HB := Lib.hid hb
    have hsz := hb.size
    clear hp hb HP0
    by_cases hlt : k < n
    · have hlt' : (k : Int) < (n : Int) := by omega
      obtain ⟨b, o, rfl, q1, q2, q3, q4, _, _, _⟩ := HS.out k hlt
      have e2 := (HB.out.cell (p := ⟨b, o + k * 3, none⟩) q1).trans q2
      have e3 := (HB.out.cell (p := ⟨b, o + k * 3 + 1, none⟩) q1).trans q3
      have e4 := (HB.out.cell (p := ⟨b, o + k * 3 + 2, none⟩) q1).trans q4
      have HL := Lib.hid hlt
      have l1 := cutA_len m ss k
      have l2 := cutB_len m ss k
      have hSA : Hid (cutA m ss (k + 1) = cutA m ss k ++ cutF m (ss k)) := rfl
      have hSB : Hid (cutB m ss (k + 1) = cutB m ss k ++ cutS m (ss k)) := rfl
      have hsx : Hid (∃ x : St, x = ss k ∧ x = ⟨(ss k).f, (ss k).t, (ss k).h⟩) := ⟨ss k, rfl, rfl⟩
      obtain ⟨x, hx1, hx2⟩ := hsx.out
      rw [← hx1] at hSA hSB
      generalize (ss k).f = f at *
      generalize (ss k).t = t at *
      generalize (ss k).h = h at *
      rw [hx2] at hSA hSB
      clear q2 q3 q4 hlt hx1 hx2 hsx
      generalize cutA m ss k = la at *
      generalize cutB m ss k = lb at *
      by_cases hf : f < m
      · by_cases ht : m < t
        · have d1 : cutF m ⟨f, t, h⟩ = [⟨f, m, h⟩] := by unfold cutF; rw [if_pos ⟨hf, ht⟩]
          have d2 : cutS m ⟨f, t, h⟩ = [⟨m, t, h⟩] := by unfold cutS; rw [if_pos ⟨hf, ht⟩]
          rw [d1] at hSA
          rw [d2] at hSB
          clear d1 d2
          go_wp2_with (first
            | (at_builtin
               refine wpList_append_st _ rfl (.tmp 32) (.tmp 39) rfl (.slice A1 n1 c1) la rfl ((HP.out.alloc _).alloc _).ra (.slice (some ⟨wr.heap.size + 1, 0, none⟩) 1 1) [⟨f, m, h⟩] rfl (reads_one (at_top (by simp))) (by simp; omega) ?_
               intro A3 c3 w1 hr1 hg1 ho1
               have HQ := Lib.hid (((HP.out.alloc _).alloc _).putA (by simp; omega) hg1 hr1 ho1)
               have HB1 := Lib.hid (((HB.out.alloc HB.out.size _).alloc (by simp; omega) _).grown hg1 (by simp; omega) HP.out.oa)
               have hsz1 := HB1.out.size
               obtain ⟨g0, g1, g2⟩ := box3 ((hg1.block wr.heap.size (by simp; omega) (fun e => by have := HP.out.ra.lt _ e.symm; omega)).trans (up' (at_top rfl)))
               have ls' : wr.heap.size < w1.heap.size := by have := hg1.size; simp at this; omega
               rw [← hSA.out] at HQ ⊢
               clear hr1 hg1 ho1)
            | (at_builtin
               refine wpList_append_st _ rfl (.tmp 41) (.tmp 48) rfl (.slice A2 n2 c2) lb rfl (HQ.out.alloc _).rb (.slice (some ⟨w1.heap.size, 0, none⟩) 1 1) [⟨m, t, h⟩] rfl (reads_one (at_top (by simp))) (by simp; omega) ?_
               intro A4 c4 w2 hr2 hg2 ho2
               have HR := Lib.hid ((HQ.out.alloc _).putB (by simp; omega) hg2 hr2 ho2)
               have HB2 := Lib.hid ((HB1.out.alloc HB1.out.size _).grown hg2 (by simp; omega) HQ.out.ob)
               rw [← hSB.out] at HR ⊢
               clear hr2 hg2 ho2))
          exact ⟨⟨k + 1, by have := HL.out; omega, by go_num, ⟨_, _, _, rfl⟩, ⟨_, _, _, rfl⟩, HR.out, HB2.out⟩, by have := HL.out; simp [intOf]; omega⟩
        · have d1 : cutF m ⟨f, t, h⟩ = [⟨f, t, h⟩] := by unfold cutF; rw [if_neg (fun h => ht h.2), if_pos hf]
          have d2 : cutS m ⟨f, t, h⟩ = [] := by unfold cutS; rw [if_neg (fun h => ht h.2), if_pos hf]
          rw [d1] at hSA
          rw [d2, List.append_nil] at hSB
          clear d1 d2
          go_wp2_with (
               at_builtin
               refine wpList_append_st _ rfl (.tmp 54) (.tmp 56) rfl (.slice A1 n1 c1) la rfl ((HP.out.alloc _).alloc _).ra (.slice (some ⟨wr.heap.size + 1, 0, none⟩) 1 1) [⟨f, t, h⟩] rfl (reads_one (at_top (by simp))) (by simp; omega) ?_
               intro A3 c3 w1 hr1 hg1 ho1
               have HQ := Lib.hid (((HP.out.alloc _).alloc _).putA (by simp; omega) hg1 hr1 ho1)
               have HB1 := Lib.hid (((HB.out.alloc HB.out.size _).alloc (by simp; omega) _).grown hg1 (by simp; omega) HP.out.oa)
               rw [← hSA.out] at HQ ⊢
               clear hr1 hg1 ho1)
          exact ⟨⟨k + 1, by have := HL.out; omega, by go_num, ⟨_, _, _, rfl⟩, ⟨_, _, _, rfl⟩, by rw [hSB.out]; exact HQ.out, HB1.out⟩, by have := HL.out; simp [intOf]; omega⟩
      · have d1 : cutF m ⟨f, t, h⟩ = [] := by unfold cutF; rw [if_neg (fun h => hf h.1), if_neg hf]
        have d2 : cutS m ⟨f, t, h⟩ = [⟨f, t, h⟩] := by unfold cutS; rw [if_neg (fun h => hf h.1), if_neg hf]
        rw [d1, List.append_nil] at hSA
        rw [d2] at hSB
        clear d1 d2
        go_wp2_with (
             at_builtin
             refine wpList_append_st _ rfl (.tmp 58) (.tmp 60) rfl (.slice A2 n2 c2) lb rfl ((HP.out.alloc _).alloc _).rb (.slice (some ⟨wr.heap.size + 1, 0, none⟩) 1 1) [⟨f, t, h⟩] rfl (reads_one (at_top (by simp))) (by simp; omega) ?_
             intro A4 c4 w2 hr2 hg2 ho2
             have HR := Lib.hid (((HP.out.alloc _).alloc _).putB (by simp; omega) hg2 hr2 ho2)
             have HB2 := Lib.hid (((HB.out.alloc HB.out.size _).alloc (by simp; omega) _).grown hg2 (by simp; omega) HP.out.ob)
             rw [← hSB.out] at HR ⊢
             clear hr2 hg2 ho2)
        exact ⟨⟨k + 1, by have := HL.out; omega, by go_num, ⟨_, _, _, rfl⟩, ⟨_, _, _, rfl⟩, by rw [hSA.out]; exact HR.out, HB2.out⟩, by have := HL.out; simp [intOf]; omega⟩
    · have hge : ¬ (k : Int) < (n : Int) := by omega
      have hkn : k = n := by omega
      rw [hkn] at HP
      clear hlt hkn
      go_wp2_with fail
      go_ret2
      exact ⟨_, _, _, _, _, _, rfl, HP.out.ra, HP.out.rb, HB.out⟩

set_option maxRecDepth 100000 in
set_option maxHeartbeats 2000000 in
theorem same_eq (w : World) (A A' : Option Addr) (n c c' : Nat) (ss : Nat → St) (hn : n ≤ 1000000) (hS : Sts w A n ss) (hS' : Sts w A' n ss) :
    Calls Try.prog 23 #[.slice A n c, .slice A' n c'] w fun e w' => e = .returned (.bool true) ∧ Below w.heap.size w w' := by
  have HS := Lib.hid hS
  have HS' := Lib.hid hS'
  clear hS hS'
  go_enter Try.func23, Try.ntmps23
  go_wp2_with fail
  go_loopw [5] (fun i wr => ∃ k : Nat, k ≤ n ∧ i = .int .i64 k ∧ Below w.heap.size w wr) (fun i _ => n - (intOf i).toNat)
  case atStart => exact ⟨0, by omega, rfl, Below.refl _ _⟩
  case round =>
    obtain ⟨k, hk, rfl, hb⟩ := hrel
    have HB := Lib.hid hb
    clear hb
    by_cases hlt : k < n
    · have hlt' : (k : Int) < (n : Int) := by omega
      obtain ⟨b, o, rfl, q1, q2, q3, q4, _, _, _⟩ := HS.out k hlt
      obtain ⟨b', o', rfl, r1, r2, r3, r4, _, _, _⟩ := HS'.out k hlt
      have e2 := (HB.out.cell (p := ⟨b, o + k * 3, none⟩) q1).trans q2
      have e3 := (HB.out.cell (p := ⟨b, o + k * 3 + 1, none⟩) q1).trans q3
      have e4 := (HB.out.cell (p := ⟨b, o + k * 3 + 2, none⟩) q1).trans q4
      have f2 := (HB.out.cell (p := ⟨b', o' + k * 3, none⟩) r1).trans r2
      have f3 := (HB.out.cell (p := ⟨b', o' + k * 3 + 1, none⟩) r1).trans r3
      have f4 := (HB.out.cell (p := ⟨b', o' + k * 3 + 2, none⟩) r1).trans r4
      have HL := Lib.hid hlt
      clear q2 q3 q4 r2 r3 r4 hlt
      go_wp2_with fail
      go_quiet (fail)
      go_wp2_with fail
      exact ⟨⟨k + 1, by have := HL.out; omega, by go_num, below_drewN HB.out _⟩, by have := HL.out; simp [intOf]; omega⟩
    · have hge : ¬ (k : Int) < (n : Int) := by omega
      clear hlt
      go_wp2_with fail
      go_ret
      exact ⟨rfl, HB.out⟩
end Go.Proofs.Ytpflojfdlmdmfaa
