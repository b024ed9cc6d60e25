/- The walks of lay.Cut: a stretch more (Cut$1), all of them. -/
import Derived.Test.YtpflojfdlmdmfaaRow
import Derived.Test.YtpflojfdlmdmfaaTake
namespace Go.Proofs.Ytpflojfdlmdmfaa
open Go.RowKit

/-- A stretch, cut at an hour: what lies ahead, what behind. -/
def cutF (m : Int) (x : St) : List St := if x.f < m ∧ m < x.t then [⟨x.f, m, x.h⟩] else if x.f < m then [x] else []
def cutS (m : Int) (x : St) : List St := if x.f < m ∧ m < x.t then [⟨m, x.t, x.h⟩] else if x.f < m then [] else [x]
/-- So many stretches, cut. -/
def cutA (m : Int) (ss : Nat → St) : Nat → List St
  | 0 => []
  | k + 1 => cutA m ss k ++ cutF m (ss k)
def cutB (m : Int) (ss : Nat → St) : Nat → List St
  | 0 => []
  | k + 1 => cutB m ss k ++ cutS m (ss k)
theorem cutF_len (m : Int) (x : St) : (cutF m x).length ≤ 1 := by unfold cutF; split <;> (try split) <;> simp
theorem cutS_len (m : Int) (x : St) : (cutS m x).length ≤ 1 := by unfold cutS; split <;> (try split) <;> simp
theorem cutA_len (m : Int) (ss : Nat → St) (k : Nat) : (cutA m ss k).length ≤ k := by
  induction k with
  | zero => simp [cutA]
  | succ k ih => have := cutF_len m (ss k); simp only [cutA, List.length_append]; omega
theorem cutB_len (m : Int) (ss : Nat → St) (k : Nat) : (cutB m ss k).length ≤ k := by
  induction k with
  | zero => simp [cutB]
  | succ k ih => have := cutS_len m (ss k); simp only [cutB, List.length_append]; omega

/-- The hour, both slices' variables, and the slices: all of the call's own, behind block B. -/
structure CutV (w : World) (B : Nat) (m : Int) (va : Value) (la : List St) (vb : Value) (lb : List St) : Prop where
  hour : w.heap[B]? = some (.cells #[.int .i64 m] 3 (0, 0))
  ha : w.heap[B + 1]? = some (.cells #[va] 26 (0, 0))
  hb : w.heap[B + 1 + 1]? = some (.cells #[vb] 26 (0, 0))
  ra : RowS w va la
  rb : RowS w vb lb
  oa : ∀ k, va.ownBlock = some k → B + 1 + 1 < k
  ob : ∀ k, vb.ownBlock = some k → B + 1 + 1 < k
  ne : va.ownBlock = none ∨ va.ownBlock ≠ vb.ownBlock
def CutAt (w : World) (B : Nat) (m : Int) (la lb : List St) : Prop := ∃ A n c A' n' c', CutV w B m (.slice A n c) la (.slice A' n' c') lb

theorem box1 {w : World} {b : Nat} {x : Value} {t : TypeId} (h : w.heap[b]? = some (.cells #[x] t (0, 0))) : w.cell? ⟨b, 0, none⟩ = some x ∧ w.frozen? ⟨b, 0, none⟩ = false := by
  exact ⟨by rw [cell_of_row w b _ _ _ _ h]; rfl, by simp [World.frozen?, h]⟩
theorem RowS.alloc {w : World} {v : Value} {l : List St} (h : RowS w v l) (o : Obj) : RowS (w.alloc o) v l := h.keep fun k hk => Below.heap_alloc _ _ _ (h.lt k hk)
theorem up' {w : World} {o o' : Obj} {g : Nat} (h : w.heap[g]? = some o') : (w.alloc o).heap[g]? = some o' := (Below.heap_alloc _ _ _ (heap_lt h)).trans h
theorem reads_one {w : World} {b : Nat} {x : St} (h : w.heap[b]? = some (.cells #[.int .i64 x.f, .int .i64 x.t, .int .i64 x.h] 28 (0, 0))) : Reads w (.slice (some ⟨b, 0, none⟩) 1 1) [x] := by
  refine .inr ⟨⟨b, 0, none⟩, 1, rfl, fun j u hu => ?_⟩
  rw [Addr.add_lit, Nat.zero_add, cell_of_row w b j _ _ _ h]
  simpa [stC] using hu

section
variable {w : World} {B : Nat} {m : Int} {va vb : Value} {la lb : List St}
theorem CutV.lts (h : CutV w B m va la vb lb) : B < w.heap.size ∧ B + 1 < w.heap.size ∧ B + 1 + 1 < w.heap.size := ⟨heap_lt h.hour, heap_lt h.ha, heap_lt h.hb⟩
theorem CutV.alloc (h : CutV w B m va la vb lb) (o : Obj) : CutV (w.alloc o) B m va la vb lb := ⟨up' h.hour, up' h.ha, up' h.hb, h.ra.alloc o, h.rb.alloc o, h.oa, h.ob, h.ne⟩
theorem CutV.grownA (h : CutV w B m va la vb lb) {w1 : World} (hg : w.grownBy w1 va.ownBlock) : w1.heap[B]? = some (.cells #[.int .i64 m] 3 (0, 0)) ∧ w1.heap[B + 1]? = some (.cells #[va] 26 (0, 0)) ∧ w1.heap[B + 1 + 1]? = some (.cells #[vb] 26 (0, 0)) := by
  obtain ⟨l0, l1, l2⟩ := h.lts
  refine ⟨(hg.block _ l0 fun e => ?_).trans h.hour, (hg.block _ l1 fun e => ?_).trans h.ha, (hg.block _ l2 fun e => ?_).trans h.hb⟩ <;> (have := h.oa _ e.symm; omega)
theorem CutV.grownB (h : CutV w B m va la vb lb) {w1 : World} (hg : w.grownBy w1 vb.ownBlock) : w1.heap[B]? = some (.cells #[.int .i64 m] 3 (0, 0)) ∧ w1.heap[B + 1]? = some (.cells #[va] 26 (0, 0)) ∧ w1.heap[B + 1 + 1]? = some (.cells #[vb] 26 (0, 0)) := by
  obtain ⟨l0, l1, l2⟩ := h.lts
  refine ⟨(hg.block _ l0 fun e => ?_).trans h.hour, (hg.block _ l1 fun e => ?_).trans h.ha, (hg.block _ l2 fun e => ?_).trans h.hb⟩ <;> (have := h.ob _ e.symm; omega)
theorem CutV.putA (h : CutV w B m va la vb lb) {w1 : World} (hg : w.grownBy w1 va.ownBlock) {v' : Value} {l' : List St} (hr : RowS w1 v' l') (ho : v'.ownBlock = va.ownBlock ∨ v'.ownBlock = some w.heap.size) : CutV (w1.setCell ⟨B + 1, 0, none⟩ v') B m v' l' vb lb := by
  obtain ⟨l0, l1, l2⟩ := h.lts
  obtain ⟨g0, g1, g2⟩ := h.grownA hg
  have oa' : ∀ k, v'.ownBlock = some k → B + 1 + 1 < k := fun k hk => by
    rcases ho with ho | ho
    · exact h.oa k (ho.symm.trans hk)
    · rw [ho] at hk; injection hk with hk; omega
  have far : ∀ k, k ≠ B + 1 → (w1.setCell ⟨B + 1, 0, none⟩ v').heap[k]? = w1.heap[k]? := fun k hk => Below.heap_setCell w1 _ _ k hk
  have nev : vb.ownBlock = none ∨ vb.ownBlock ≠ va.ownBlock := by
    rcases h.ne with e | e
    · cases hb : vb.ownBlock with
      | none => exact .inl rfl
      | some k => exact .inr (by rw [e]; exact fun h => by cases h)
    · exact .inr fun e' => e e'.symm
  refine ⟨(far _ (by omega)).trans g0, heap_setCell_same w1 (B + 1) 0 _ _ _ g1, (far _ (by omega)).trans g2, hr.keep fun k hk => far k (by have := oa' k hk; omega), (h.rb.grown hg nev).keep fun k hk => far k (by have := h.ob k hk; omega), oa', h.ob, ?_⟩
  rcases ho with ho | ho
  · rw [ho]; exact h.ne
  · refine .inr fun e => ?_
    have := h.rb.lt w.heap.size (e.symm.trans ho)
    omega
theorem CutV.putB (h : CutV w B m va la vb lb) {w1 : World} (hg : w.grownBy w1 vb.ownBlock) {v' : Value} {l' : List St} (hr : RowS w1 v' l') (ho : v'.ownBlock = vb.ownBlock ∨ v'.ownBlock = some w.heap.size) : CutV (w1.setCell ⟨B + 1 + 1, 0, none⟩ v') B m va la v' l' := by
  obtain ⟨l0, l1, l2⟩ := h.lts
  obtain ⟨g0, g1, g2⟩ := h.grownB hg
  have ob' : ∀ k, v'.ownBlock = some k → B + 1 + 1 < k := fun k hk => by
    rcases ho with ho | ho
    · exact h.ob k (ho.symm.trans hk)
    · rw [ho] at hk; injection hk with hk; omega
  have far : ∀ k, k ≠ B + 1 + 1 → (w1.setCell ⟨B + 1 + 1, 0, none⟩ v').heap[k]? = w1.heap[k]? := fun k hk => Below.heap_setCell w1 _ _ k hk
  refine ⟨(far _ (by omega)).trans g0, (far _ (by omega)).trans g1, heap_setCell_same w1 (B + 1 + 1) 0 _ _ _ g2, (h.ra.grown hg h.ne).keep fun k hk => far k (by have := h.oa k hk; omega), hr.keep fun k hk => far k (by have := ob' k hk; omega), h.oa, ob', ?_⟩
  rcases ho with ho | ho
  · rw [ho]; exact h.ne
  · cases hva : va.ownBlock with
    | none => exact .inl rfl
    | some k =>
      refine .inr fun e => ?_
      have h1 := h.ra.lt w.heap.size (hva.trans (e.trans ho))
      omega
end

set_option maxRecDepth 100000 in
set_option maxHeartbeats 4000000 in
theorem cut1_any (w : World) (B : Nat) (m : Int) (la lb : List St) (x : St) (hC : CutAt w B m la lb) (hla : la.length ≤ 1000000) (hlb : lb.length ≤ 1000000) :
    Calls Try.prog 29 #[stV x, .pointer (some ⟨B, 0, none⟩), .pointer (some ⟨B + 1, 0, none⟩), .pointer (some ⟨B + 1 + 1, 0, none⟩)] w fun e w' => e = .returned (.tuple #[]) ∧ CutAt w' B m (la ++ cutF m x) (lb ++ cutS m x) ∧ Below B w w' := by
  obtain ⟨f, t, h⟩ := x
  obtain ⟨A, n, c, A', n', c', hC⟩ := hC
  obtain ⟨p0, p1⟩ := box1 hC.hour
  obtain ⟨a0, a1⟩ := box1 hC.ha
  obtain ⟨b0, b1⟩ := box1 hC.hb
  obtain ⟨l0, l1, l2⟩ := hC.lts
  have CV := Lib.hid hC
  clear hC
  by_cases hf : f < m
  · by_cases ht : m < t
    · have e1 : cutF m ⟨f, t, h⟩ = [⟨f, m, h⟩] := by unfold cutF; rw [if_pos ⟨hf, ht⟩]
      have e2 : cutS m ⟨f, t, h⟩ = [⟨m, t, h⟩] := by unfold cutS; rw [if_pos ⟨hf, ht⟩]
      rw [e1, e2]
      clear e1 e2
      go_enter Try.func29, Try.ntmps29
      go_wp2_with (first
        | (at_builtin
           refine wpList_append_st _ rfl (.tmp 20) (.tmp 27) rfl (.slice A n c) la rfl ((CV.out.alloc _).alloc _).ra (.slice (some ⟨w.heap.size + 1, 0, none⟩) 1 1) [⟨f, m, h⟩] rfl (reads_one (at_top (by simp))) (by simp; omega) ?_
           intro A1 c1 w1 hr1 hg1 ho1
           obtain ⟨g0, g1, g2⟩ := ((CV.out.alloc _).alloc _).grownA hg1
           have CW := Lib.hid (((CV.out.alloc _).alloc _).putA hg1 hr1 ho1)
           have HBW := Lib.hid ((((Below.refl B w).alloc (by omega) _).alloc (by simp; omega) _).grown hg1 (by simp; omega) (fun k hk => by have := CV.out.oa k hk; omega))
           obtain ⟨d0, d1, d2⟩ := box3 ((hg1.block w.heap.size (by simp; omega) (fun e => by have := CV.out.ra.lt _ e.symm; omega)).trans (up' (at_top rfl)))
           obtain ⟨p0', p1'⟩ := box1 g0
           obtain ⟨a0', a1'⟩ := box1 g1
           obtain ⟨b0', b1'⟩ := box1 g2
           obtain ⟨l0', l1', l2'⟩ : B < w1.heap.size ∧ B + 1 < w1.heap.size ∧ B + 1 + 1 < w1.heap.size := ⟨heap_lt g0, heap_lt g1, heap_lt g2⟩
           have ls' : w.heap.size < w1.heap.size := by have := hg1.size; simp at this; omega
           clear g0 g1 g2 hr1 hg1 ho1
           obtain ⟨L1, hL1⟩ : ∃ L, L = la ++ [⟨f, m, h⟩] := ⟨_, rfl⟩
           rw [← hL1] at CW ⊢
           have HL1 := Lib.hid hL1
           clear hL1)
        | (at_builtin
           refine wpList_append_st _ rfl (.tmp 29) (.tmp 36) rfl (.slice A' n' c') lb rfl (CW.out.alloc _).rb (.slice (some ⟨w1.heap.size, 0, none⟩) 1 1) [⟨m, t, h⟩] rfl (reads_one (at_top (by simp))) (by simp; omega) ?_
           intro A2 c2 w2 hr2 hg2 ho2
           obtain ⟨g0, g1, g2⟩ := (CW.out.alloc _).grownB hg2
           have CX := Lib.hid ((CW.out.alloc _).putB hg2 hr2 ho2)
           have HBX := Lib.hid (((HBW.out.setCell (p := ⟨B + 1, 0, none⟩) (by simp) _).alloc (by simp; omega) _).grown hg2 (by simp; omega) (fun k hk => by have := CV.out.ob k hk; omega))
           obtain ⟨p0'', p1''⟩ := box1 g0
           obtain ⟨a0'', a1''⟩ := box1 g1
           obtain ⟨b0'', b1''⟩ := box1 g2
           clear g0 g1 g2 hr2 hg2 ho2
           obtain ⟨L2, hL2⟩ : ∃ L, L = lb ++ [⟨m, t, h⟩] := ⟨_, rfl⟩
           rw [← hL2] at CX ⊢
           have HL2 := Lib.hid hL2
           clear hL2))
      go_end0
      exact ⟨rfl, ⟨_, _, _, _, _, _, by rw [← HL1.out, ← HL2.out]; exact CX.out⟩, HBX.out.setCell (p := ⟨B + 1 + 1, 0, none⟩) (by simp; omega) _⟩
    · have e1 : cutF m ⟨f, t, h⟩ = [⟨f, t, h⟩] := by unfold cutF; rw [if_neg (fun h => ht h.2), if_pos hf]
      have e2 : cutS m ⟨f, t, h⟩ = [] := by unfold cutS; rw [if_neg (fun h => ht h.2), if_pos hf]
      rw [e1, e2, List.append_nil]
      clear e1 e2
      go_enter Try.func29, Try.ntmps29
      go_wp2_with (
          at_builtin
          refine wpList_append_st _ rfl (.tmp 43) (.tmp 45) rfl (.slice A n c) la rfl ((CV.out.alloc _).alloc _).ra (.slice (some ⟨w.heap.size + 1, 0, none⟩) 1 1) [⟨f, t, h⟩] rfl (reads_one (at_top (by simp))) (by simp; omega) ?_
          intro A1 c1 w1 hr1 hg1 ho1
          obtain ⟨g0, g1, g2⟩ := ((CV.out.alloc _).alloc _).grownA hg1
          have CW := Lib.hid (((CV.out.alloc _).alloc _).putA hg1 hr1 ho1)
          have HBW := Lib.hid ((((Below.refl B w).alloc (by omega) _).alloc (by simp; omega) _).grown hg1 (by simp; omega) (fun k hk => by have := CV.out.oa k hk; omega))
          obtain ⟨a0', a1'⟩ := box1 g1
          obtain ⟨l0', l1', l2'⟩ : B < w1.heap.size ∧ B + 1 < w1.heap.size ∧ B + 1 + 1 < w1.heap.size := ⟨heap_lt g0, heap_lt g1, heap_lt g2⟩
          clear g0 g1 g2 hr1 hg1 ho1
          obtain ⟨L1, hL1⟩ : ∃ L, L = la ++ [⟨f, t, h⟩] := ⟨_, rfl⟩
          rw [← hL1] at CW ⊢
          have HL1 := Lib.hid hL1
          clear hL1)
      go_end0
      exact ⟨rfl, ⟨_, _, _, _, _, _, by rw [← HL1.out]; exact CW.out⟩, HBW.out.setCell (p := ⟨B + 1, 0, none⟩) (by simp) _⟩
  · have e1 : cutF m ⟨f, t, h⟩ = [] := by unfold cutF; rw [if_neg (fun h => hf h.1), if_neg hf]
    have e2 : cutS m ⟨f, t, h⟩ = [⟨f, t, h⟩] := by unfold cutS; rw [if_neg (fun h => hf h.1), if_neg hf]
    rw [e1, e2, List.append_nil]
    clear e1 e2
    go_enter Try.func29, Try.ntmps29
    go_wp2_with (
        at_builtin
        refine wpList_append_st _ rfl (.tmp 5) (.tmp 7) rfl (.slice A' n' c') lb rfl ((CV.out.alloc _).alloc _).rb (.slice (some ⟨w.heap.size + 1, 0, none⟩) 1 1) [⟨f, t, h⟩] rfl (reads_one (at_top (by simp))) (by simp; omega) ?_
        intro A2 c2 w2 hr2 hg2 ho2
        obtain ⟨g0, g1, g2⟩ := ((CV.out.alloc _).alloc _).grownB hg2
        have CX := Lib.hid (((CV.out.alloc _).alloc _).putB hg2 hr2 ho2)
        have HBX := Lib.hid ((((Below.refl B w).alloc (by omega) _).alloc (by simp; omega) _).grown hg2 (by simp; omega) (fun k hk => by have := CV.out.ob k hk; omega))
        obtain ⟨b0', b1'⟩ := box1 g2
        obtain ⟨l0', l1', l2'⟩ : B < w2.heap.size ∧ B + 1 < w2.heap.size ∧ B + 1 + 1 < w2.heap.size := ⟨heap_lt g0, heap_lt g1, heap_lt g2⟩
        clear g0 g1 g2 hr2 hg2 ho2
        obtain ⟨L2, hL2⟩ : ∃ L, L = lb ++ [⟨f, t, h⟩] := ⟨_, rfl⟩
        rw [← hL2] at CX ⊢
        have HL2 := Lib.hid hL2
        clear hL2)
    go_end0
    exact ⟨rfl, ⟨_, _, _, _, _, _, by rw [← HL2.out]; exact CX.out⟩, HBX.out.setCell (p := ⟨B + 1 + 1, 0, none⟩) (by simp; omega) _⟩

/-- What Cut leaves. -/
def CutPost (m : Int) (ss : Nat → St) (n : Nat) (w : World) (e : Ending) (w' : World) : Prop :=
  ∃ A k c A' k' c', e = .returned (.tuple #[.slice A k c, .slice A' k' c']) ∧ RowS w' (.slice A k c) (cutA m ss n) ∧ RowS w' (.slice A' k' c') (cutB m ss n) ∧ Below w.heap.size w w'

set_option maxRecDepth 100000 in
set_option maxHeartbeats 2000000 in
theorem each_cut (w : World) (W : World) (B : Nat) (m : Int) (A : Option Addr) (n c : Nat) (ss : Nat → St) (hW : W.heap.size ≤ B) (hB : Below W.heap.size W w) (hn : n ≤ 1000000) (hS : Sts W A n ss) (hc : CutAt w B m [] []) :
    Calls Try.prog 28 #[.slice A n c, .func (.func 29) #[] #[.pointer (some ⟨B, 0, none⟩), .pointer (some ⟨B + 1, 0, none⟩), .pointer (some ⟨B + 1 + 1, 0, none⟩)]] w fun e w' => e = .returned (.tuple #[]) ∧ CutAt w' B m (cutA m ss n) (cutB m ss n) ∧ Below W.heap.size W w' := by
  have HS := Lib.hid hS
  have HC0 := Lib.hid hc
  have HB0 := Lib.hid hB
  clear hS hc hB
  go_enter Try.func28, Try.ntmps28
  go_wp2_with fail
  go_loopw [8] (fun i wr => ∃ k : Nat, k ≤ n ∧ i = .int .i64 k ∧ CutAt wr B m (cutA m ss k) (cutB m ss k) ∧ Below W.heap.size W wr) (fun i _ => n - (intOf i).toNat)
  case atStart => exact ⟨0, by omega, rfl, HC0.out, HB0.out⟩
  case round =>
    obtain ⟨k, hk, rfl, hc, hb⟩ := hrel
    have HC := Lib.hid hc
    have HB := Lib.hid hb
    clear hc hb HC0 HB0
    by_cases hlt : k < n
    · have hlt' : (k : Int) < (n : Int) := by omega
      obtain ⟨b, o, rfl, q1, q2, q3, q4, _, _, _⟩ := HS.out k hlt
      have e2 := (HB.out.cell (p := ⟨b, o + k * 3, none⟩) q1).trans q2
      have e3 := (HB.out.cell (p := ⟨b, o + k * 3 + 1, none⟩) q1).trans q3
      have e4 := (HB.out.cell (p := ⟨b, o + k * 3 + 2, none⟩) q1).trans q4
      have HL := Lib.hid hlt
      have hA : CutAt (wr.alloc (.cells #[.int .i64 (ss k).f, .int .i64 (ss k).t, .int .i64 (ss k).h] 28)) B m (cutA m ss k) (cutB m ss k) := by
        obtain ⟨a1, a2, a3, a4, a5, a6, h⟩ := HC.out
        exact ⟨a1, a2, a3, a4, a5, a6, h.alloc _⟩
      have HA := Lib.hid hA
      have l1 := cutA_len m ss k
      have l2 := cutB_len m ss k
      clear q2 q3 q4 hlt hA
      go_wp2_with fail
      refine (cut1_any _ B m (cutA m ss k) (cutB m ss k) (ss k) HA.out (by omega) (by omega)).mono ?_
      rintro e w1 ⟨rfl, hc1, hk1⟩
      have HC1 := Lib.hid hc1
      have HB1 : Hid (Below W.heap.size W w1) := (HB.out.alloc HB.out.size _).trans (hk1.mono (by omega))
      clear hc1 hk1
      go_wp2_with fail
      exact ⟨⟨k + 1, by omega, by go_num, HC1.out, HB1.out⟩, by simp [intOf]; omega⟩
    · have hge : ¬ (k : Int) < (n : Int) := by omega
      have hkn : k = n := by omega
      rw [hkn] at HC
      clear hlt hkn
      go_wp2_with fail
      go_end0
      exact ⟨rfl, HC.out, HB.out⟩

set_option maxRecDepth 100000 in
set_option maxHeartbeats 2000000 in
theorem cut_any (w : World) (m : Int) (A : Option Addr) (n c : Nat) (ss : Nat → St) (hn : n ≤ 1000000) (hS : Sts w A n ss) :
    Calls Try.prog 12 #[.slice A n c, .int .i64 m] w (CutPost m ss n w) := by
  have hC : CutAt (((w.alloc (.cells #[.int .i64 m] 3)).alloc (.cells #[.slice none 0 0] 26)).alloc (.cells #[.slice none 0 0] 26)) w.heap.size m [] [] :=
    ⟨none, 0, 0, none, 0, 0, up' (up' (at_top rfl)), up' (at_top (by simp)), at_top (by simp), .inl ⟨rfl, rfl⟩, .inl ⟨rfl, rfl⟩, (fun k hk => by cases hk), (fun k hk => by cases hk), .inl rfl⟩
  have HE := Lib.hid (each_cut _ w w.heap.size m A n c ss (Nat.le_refl _) ((((Below.refl _ w).alloc (Nat.le_refl _) _).alloc (by simp) _).alloc (by simp; omega) _) hn hS hC)
  clear hC hS
  go_enter Try.func12, Try.ntmps12
  go_wp2_with fail
  refine HE.out.mono ?_
  rintro e w1 ⟨rfl, ⟨A1, n1, c1, A2, n2, c2, hC⟩, hb⟩
  have CV := Lib.hid hC
  have HB := Lib.hid hb
  obtain ⟨a0, a1⟩ := box1 hC.ha
  obtain ⟨b0, b1⟩ := box1 hC.hb
  obtain ⟨l0, l1, l2⟩ := hC.lts
  clear hC hb
  go_wp2_with fail
  go_quiet (fail)
  go_wp2_with fail
  go_ret2
  exact ⟨_, _, _, _, _, _, rfl, CV.out.ra, CV.out.rb, below_drewN HB.out _⟩
end Go.Proofs.Ytpflojfdlmdmfaa
