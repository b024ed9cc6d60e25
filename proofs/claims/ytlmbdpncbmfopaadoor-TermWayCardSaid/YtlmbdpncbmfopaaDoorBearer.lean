/- The walks of stageOf and Bearer: who bears a loss, along a chain of hands. -/
import Derived.Test.YtlmbdpncbmfopaaDoorWayPlain
import Derived.Deep.AppendLies
import Derived.Maps.AppendAt
import Derived.Laws.OwnMore
import Derived.WalkSpells
namespace Go.Proofs.YtlmbdpncbmfopaaDoor
open Go.RowKit

theorem str_eq {a b : ByteArray} : a.toList = b.toList ↔ a = b := by
  constructor
  · intro h
    rw [ByteArray.toList_eq, ByteArray.toList_eq] at h
    cases a; cases b
    simp only [ByteArray.mk.injEq]
    exact Array.toList_inj.1 h
  · intro h; rw [h]
theorem str_beq {a b : ByteArray} (h : a = b) : (a.toList == b.toList) = true := by rw [h]; simp
theorem str_bne {a b : ByteArray} (h : a ≠ b) : (a.toList == b.toList) = false := by
  rw [← Bool.not_eq_true, beq_iff_eq, str_eq]; exact h

set_option maxHeartbeats 400000 in
theorem stageOf_any (who fr to : ByteArray) (w : World) : Calls Tryd.prog 30 #[.string who, .string fr, .string to] w fun e w' => e = .returned (.int .i64 (stNum who fr to)) ∧ w = w' := by
  by_cases h1 : who = fr
  · have hs : stNum who fr to = 0 := by unfold stNum; rw [if_pos h1]
    have h2 := str_beq h1
    rw [hs]; clear hs h1
    go_enter Tryd.func30, Tryd.ntmps30
    go_wp2
    go_ret
    exact ⟨rfl, rfl⟩
  · by_cases h3 : who = to
    · have hs : stNum who fr to = 7 := by unfold stNum; rw [if_neg h1, if_pos h3]
      have h2 := str_bne h1
      have h4 := str_beq h3
      rw [hs]; clear hs h1 h3
      go_enter Tryd.func30, Tryd.ntmps30
      go_wp2
      go_ret
      exact ⟨rfl, rfl⟩
    · have hs : stNum who fr to = 3 := by unfold stNum; rw [if_neg h1, if_neg h3]
      have h2 := str_bne h1
      have h4 := str_bne h3
      rw [hs]; clear hs h1 h3
      go_enter Tryd.func30, Tryd.ntmps30
      go_wp2
      go_ret
      exact ⟨rfl, rfl⟩

/-- A slice of hands, known cell by cell: only to whom, and on which day, is said. -/
def HasHands (w : World) (g : Nat) (l : Hands) : Prop := g < w.heap.size ∧ ∀ j p, l[j]? = some p →
  w.cell? ⟨g, j * 5, none⟩ = some (.string eS) ∧ w.cell? ⟨g, j * 5 + 1, none⟩ = some (.string eS) ∧ w.cell? ⟨g, j * 5 + 2, none⟩ = some (.string p.1) ∧ w.cell? ⟨g, j * 5 + 3, none⟩ = some (.string eS) ∧ w.cell? ⟨g, j * 5 + 4, none⟩ = some (.int .i64 p.2)

theorem HasHands.below {w w' : World} {g : Nat} {l : Hands} {B : Nat} (h : HasHands w g l) (hb : Below B w w') (hB : w.heap.size ≤ B) : HasHands w' g l := by
  have h1 := h.1
  refine ⟨Nat.lt_of_lt_of_le h.1 hb.size, fun j p hp => ?_⟩
  have := h.2 j p hp
  rw [hb.cell (by show g < B; omega), hb.cell (by show g < B; omega), hb.cell (by show g < B; omega), hb.cell (by show g < B; omega), hb.cell (by show g < B; omega)]
  exact this

def whoS : Option ByteArray → ByteArray
  | none => eS
  | some x => x
theorem scan_take (loss : Int) (l : Hands) (k : Nat) (p : ByteArray × Int) (h : l[k]? = some p) : scan loss (l.take (k + 1)) none = if p.2 ≤ loss then some p.1 else scan loss (l.take k) none := by
  rw [List.take_add_one, h, scan_append]; rfl

set_option maxHeartbeats 1000000 in
theorem bearer_any (pa : Nat → Addr) (t : Int) (g n cap : Nat) (l : Hands) (loss : Int) (fr to : ByteArray) (w : World) (hT : Terms pa w) (hi : inT t = true) (hft : fr ≠ to) (hn : n = l.length) (hz : n ≤ 1000) (hl : HasHands w g l) :
    Calls Tryd.prog 25 #[.int .i64 t, .slice (some ⟨g, 0, none⟩) n cap, .int .i64 loss, .string fr, .string to] w fun e w' =>
      e = .returned (.tuple #[.string (bearS t fr to (scan loss l none)), .bool (scan loss l none).isSome]) ∧ Below w.heap.size w w' := by
  have HN := Lib.hid hn
  have hne := str_bne hft
  have q1 := bs_selL
  clear hn hft
  go_enter Tryd.func25, Tryd.ntmps25
  go_wp2
  have hb0 := Below.refl w.heap.size w
  go_loopw [12, 13, 20] (fun who any i wr => ∃ k : Nat, k ≤ n ∧ i = .int .i64 k ∧ who = .string (whoS (scan loss (l.take k) none)) ∧ any = .bool (scan loss (l.take k) none).isSome ∧ Below w.heap.size w wr) (fun _ _ i _ => n - (intOf i).toNat)
  case atStart => exact ⟨0, by omega, rfl, rfl, rfl, hb0⟩
  case round =>
    clear hb0
    obtain ⟨k, hk, rfl, rfl, rfl, hb⟩ := hrel
    by_cases hlt : k < n
    · have hku : l[k]? = some (l.getD k (eS, 0)) := by rw [List.getD_eq_getElem?_getD, List.getElem?_eq_getElem (by rw [← HN.out]; exact hlt)]; rfl
      obtain ⟨c0, c1, c2, c3, c4⟩ := (hl.below hb (Nat.le_refl _)).2 k _ hku
      have HS := Lib.hid (scan_take loss l k _ hku)
      have hg1 : g < wr.heap.size := Nat.lt_of_lt_of_le hl.1 hb.size
      clear hku
      generalize l.getD k (eS, 0) = p at *
      generalize hsc : scan loss (l.take k) none = o at *
      clear hsc
      obtain ⟨p1, p2⟩ := p
      simp only [] at HS c2 c4
      by_cases hd : p2 ≤ loss
      · rw [if_pos hd] at HS
        go_wp2
        exact ⟨⟨k + 1, by omega, by go_num, by rw [HS.out]; rfl, by rw [HS.out]; rfl, hb.alloc hb.size _⟩, by simp [intOf]; omega⟩
      · rw [if_neg hd] at HS
        go_wp2
        exact ⟨⟨k + 1, by omega, by go_num, by rw [HS.out], by rw [HS.out], hb.alloc hb.size _⟩, by simp [intOf]; omega⟩
    · have hkn : l.take k = l := List.take_of_length_le (by have := HN.out; omega)
      rw [hkn]
      clear hkn
      generalize hfin : scan loss l none = o
      have HE := Lib.hid hfin
      have hT1 := hT.below hb (Nat.le_refl _)
      clear hT hfin
      cases o with
      | none =>
        go_wp2_with (first
          | (go_at_call 27; refine (of_any pa t _ hT1).mono ?_; rintro e w1 ⟨a, l, c, hs, rfl, hb1⟩; clear hs; have hT2 := hT1.below hb1 (Nat.le_refl _)))
        go_ret2
        refine ⟨?_, (hb.trans (hb1.mono hb.size)).alloc (Nat.le_trans hb.size hb1.size) _⟩
        rw [HE.out]; rfl
      | some x =>
        have hst : inT (stNum x fr to) = true := by unfold stNum; split <;> first | rfl | (split <;> rfl)
        have P1 : Hid (sideS t (stNum (whoS (some x)) fr to) (riskOf t) = bs (decide (riskOf t ≤ stNum x fr to))) := side_in t (stNum x fr to) (riskOf t) hi hst
        by_cases hlt2 : stNum x fr to < riskOf t
        · have HB := Lib.hid (show bearS t fr to (some x) = fr by rw [bearS_some, if_pos hlt2])
          clear hst
          have hd : decide (riskOf t ≤ stNum x fr to) = false := by simpa using hlt2
          go_wp2_with (first
            | (go_at_call 27; refine (of_any pa t _ hT1).mono ?_; rintro e w1 ⟨a, l, c, hs, rfl, hb1⟩; clear hs; have hT2 := hT1.below hb1 (Nat.le_refl _))
            | (go_at_call 30; refine (stageOf_any _ _ _ _).mono ?_; rintro e w1 ⟨rfl, rfl⟩)
            | (go_at_call 12; go_must (refine (risk_any pa _ _ _ (hT2.below ((Below.refl _ _).alloc (Nat.le_refl _) _) (Nat.le_refl _))).mono ?_; rintro e w2 ⟨rfl, hb2⟩; rw [P1.out])))
          go_ret2
          refine ⟨?_, ((hb.trans (hb1.mono hb.size)).alloc (Nat.le_trans hb.size hb1.size) _).trans (hb2.mono (by have := hb.size; have := hb1.size; simp only [World.size_alloc]; omega))⟩
          rw [HE.out, HB.out]; rfl
        · have HB := Lib.hid (show bearS t fr to (some x) = to by rw [bearS_some, if_neg hlt2])
          clear hst
          have hd : decide (riskOf t ≤ stNum x fr to) = true := by simpa using hlt2
          go_wp2_with (first
            | (go_at_call 27; refine (of_any pa t _ hT1).mono ?_; rintro e w1 ⟨a, l, c, hs, rfl, hb1⟩; clear hs; have hT2 := hT1.below hb1 (Nat.le_refl _))
            | (go_at_call 30; refine (stageOf_any _ _ _ _).mono ?_; rintro e w1 ⟨rfl, rfl⟩)
            | (go_at_call 12; go_must (refine (risk_any pa _ _ _ (hT2.below ((Below.refl _ _).alloc (Nat.le_refl _) _) (Nat.le_refl _))).mono ?_; rintro e w2 ⟨rfl, hb2⟩; rw [P1.out])))
          go_ret2
          refine ⟨?_, ((hb.trans (hb1.mono hb.size)).alloc (Nat.le_trans hb.size hb1.size) _).trans (hb2.mono (by have := hb.size; have := hb1.size; simp only [World.size_alloc]; omega))⟩
          rw [HE.out, HB.out]; rfl
end Go.Proofs.YtlmbdpncbmfopaaDoor
