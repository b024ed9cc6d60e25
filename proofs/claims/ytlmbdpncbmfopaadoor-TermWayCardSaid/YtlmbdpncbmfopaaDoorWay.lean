/- The walk of TermWay over any table of terms: it returns true, old memory is as it was. -/
import Derived.Test.YtlmbdpncbmfopaaDoorBearer
import Derived.Deep.RegionLaw
import Derived.RegionTactic
namespace Go.Proofs.YtlmbdpncbmfopaaDoor
open Go.RowKit

def handCells : Hands → List Value
  | [] => []
  | p :: r => .string eS :: .string eS :: .string p.1 :: .string eS :: .int .i64 p.2 :: handCells r
theorem handCells_append (a b : Hands) : handCells (a ++ b) = handCells a ++ handCells b := by
  induction a with
  | nil => rfl
  | cons p r ih => simp [handCells, ih]
theorem handCells_length (l : Hands) : (handCells l).length = l.length * 5 := by
  induction l with
  | nil => rfl
  | cons p r ih => simp [handCells, ih]; omega
theorem handCells_get (l : Hands) (j : Nat) (p : ByteArray × Int) (h : l[j]? = some p) :
    (handCells l)[j * 5]? = some (.string eS) ∧ (handCells l)[j * 5 + 1]? = some (.string eS) ∧ (handCells l)[j * 5 + 2]? = some (.string p.1) ∧ (handCells l)[j * 5 + 3]? = some (.string eS) ∧ (handCells l)[j * 5 + 4]? = some (.int .i64 p.2) := by
  induction l generalizing j with
  | nil => cases h
  | cons q r ih =>
    cases j with
    | zero => simp at h; subst h; exact ⟨rfl, rfl, rfl, rfl, rfl⟩
    | succ j =>
      have := ih j (by simpa using h)
      rw [show (j + 1) * 5 = j * 5 + 5 by omega]
      exact this
theorem handCells_one (l : Hands) : ∀ u ∈ handCells l, u.oneCell' = true := by
  induction l with
  | nil => intro u hu; cases hu
  | cons p r ih =>
    intro u hu
    simp only [handCells, List.mem_cons] at hu
    rcases hu with rfl | rfl | rfl | rfl | rfl | hu
    · rfl
    · rfl
    · rfl
    · rfl
    · rfl
    · exact ih u hu

theorem HasHands.of_own {base : Nat} {w : World} {v : Value} {l : Hands} {n : Nat} (h : w.ownsRow base 41 5 v n (handCells l)) (hz : 0 < n) :
    ∃ g cap, v = .slice (some ⟨g, 0, none⟩) n cap ∧ HasHands w g l := by
  obtain ⟨g, cap, rfl, hb, hlt⟩ := h.form hz
  refine ⟨g, cap, rfl, hlt, fun j p hp => ?_⟩
  have hc := fun i u hu => h.cells (g := g) rfl i u hu
  have := handCells_get l j p hp
  simp only [Addr.add_lit, Nat.zero_add] at hc
  exact ⟨hc _ _ this.1, hc _ _ this.2.1, hc _ _ this.2.2.1, hc _ _ this.2.2.2.1, hc _ _ this.2.2.2.2⟩

theorem HasHands.of_own' {base g cap : Nat} {w : World} {l : Hands} {n : Nat} (h : w.ownsRow base 41 5 (.slice (some ⟨g, 0, none⟩) n cap) n (handCells l)) (hz : 0 < n) : HasHands w g l := by
  obtain ⟨g', cap', hv, hh⟩ := HasHands.of_own h hz
  injection hv with hv
  injection hv with hv
  injection hv with hv
  rw [hv]; exact hh

theorem info41 : (Tryd.prog.info? 41).map (fun i => (i.zero, i.size, i.bytes)) = some (some (.agg #[.string eS, .string eS, .string eS, .string eS, .int .i64 0]), 5, 72) := by kernel_rfl

/-- The strings of an argument, cell by cell. -/
def ArgStrs (w : World) (A : Option Addr) (n : Nat) (os : Nat → ByteArray) : Prop := ∀ j, j < n → ∃ b o, A = some ⟨b, o, none⟩ ∧ b < w.heap.size ∧ w.cell? ⟨b, o + j, none⟩ = some (.string (os j)) ∧ (os j).size ≤ maxLen

set_option maxRecDepth 100000 in
set_option maxHeartbeats 4000000 in
theorem way_in (pa : Nat → Addr) (t : Int) (A1 : Option Addr) (n1 c1 b2 o2 c2 : Nat) (os : Nat → ByteArray) (ds : Nat → Int) (fr to : ByteArray) (d e : Int) (w : World) (hT : Terms pa w)
    (hi : inT t = true) (h20 : n1 ≤ 20) (hft : fr ≠ to) (hfr : fr.size ≤ 100) (hto : to.size ≤ 100) (hde : d ≤ e) (hO : ArgStrs w A1 n1 os)
    (hb2 : b2 < w.heap.size) (hD : ∀ j, j < n1 + 2 → w.cell? ⟨b2, o2 + j, none⟩ = some (.int .i64 (ds j))) :
    Calls Tryd.prog 8 #[.int .i64 t, .slice A1 n1 c1, .slice (some ⟨b2, o2, none⟩) (n1 + 2) c2, .string fr, .string to, .int .i64 d, .int .i64 e] w fun e w' => e = .returned (.bool true) ∧ Below w.heap.size w w' := by
  obtain ⟨i0, hi0, hz0, hz1, hz2⟩ := info_parts info41
  have hb := Below.refl w.heap.size w
  have HD := Lib.hid hD
  have HO := Lib.hid hO
  have HFT := Lib.hid hft
  have hne := str_bne hft
  have hT0 := hT
  clear hD hO hft
  go_enter Tryd.func8, Tryd.ntmps8
  go_wp2_with (first
    | (go_at_call 9; refine (st (awake_any pa _ hT) hT hb).mono ?_; clear hT hb; rintro e w1 ⟨rfl, hb, hT⟩; have d0 := (hb.cell (p := ⟨b2, o2 + 0, none⟩) hb2).trans (HD.out 0 (by omega)); rw [Nat.add_zero] at d0)
    | (go_at_call 10; refine (is_any _ _).mono ?_; rintro e w1 ⟨rfl, rfl⟩))
  go_loopw [15, 16] (fun v i wr => ∃ k : Nat, k ≤ n1 ∧ i = .int .i64 k ∧ wr.ownsRow w.heap.size 41 5 v (k + 1) (handCells (chainTo fr os ds k)) ∧ Below w.heap.size w wr ∧ (∀ j, j < k → os j ≠ fr ∧ os j ≠ to)) (fun _ i _ => n1 - (intOf i).toNat)
  case atStart =>
    exact ⟨0, by omega, rfl, World.ownsRow_lit w1 #[_, _, _, _, _] 1 hb.size (by simp [maxLen]) rfl, hb.alloc hb.size _, fun j hj => by omega⟩
  case round =>
    clear hb d0 hT
    obtain ⟨k, hk, rfl, hown, hb, hks⟩ := hrel
    have HK := Lib.hid hks
    clear hks
    by_cases hlt : k < n1
    · obtain ⟨b1, o1, rfl, hb1, hc1, hsz⟩ := HO.out k hlt
      have hcO := (hb.cell (p := ⟨b1, o1 + k, none⟩) hb1).trans hc1
      have hcD := (hb.cell (p := ⟨b2, o2 + (k + 1), none⟩) hb2).trans (HD.out (k + 1) (by omega))
      have HS := Lib.hid (chainTo_succ fr os ds k)
      clear hc1
      unfold maxLen at hsz
      by_cases hbad : 100 < (os k).size ∨ os k = fr ∨ os k = to
      · have hbad' : 100 < (os k).size ∨ ¬ 100 < (os k).size ∧ os k = fr ∨ ¬ 100 < (os k).size ∧ os k ≠ fr ∧ os k = to := by
          by_cases g1 : 100 < (os k).size
          · exact .inl g1
          · by_cases g2 : os k = fr
            · exact .inr (.inl ⟨g1, g2⟩)
            · rcases hbad with h | h | h
              · exact absurd h g1
              · exact absurd h g2
              · exact .inr (.inr ⟨g1, g2, h⟩)
        clear hbad
        rcases hbad' with g1 | ⟨g1, g2⟩ | ⟨g1, g2, g3⟩
        · generalize os k = x at *
          go_wp2
          go_ret
          exact ⟨rfl, hb⟩
        · have e2 := str_beq g2
          clear g2
          generalize os k = x at *
          go_wp2
          go_ret
          exact ⟨rfl, hb⟩
        · have e2 := str_bne g2
          have e3 := str_beq g3
          clear g2 g3
          generalize os k = x at *
          go_wp2
          go_ret
          exact ⟨rfl, hb⟩
      · have hs1 : ¬ 100 < (os k).size := fun h => hbad (.inl h)
        have hs2 : os k ≠ fr := fun h => hbad (.inr (.inl h))
        have hs3 : os k ≠ to := fun h => hbad (.inr (.inr h))
        have e2 := str_bne hs2
        have e3 := str_bne hs3
        have HKK : Hid (∀ j, j < k + 1 → os j ≠ fr ∧ os j ≠ to) := by
          intro j hj
          by_cases hjk : j = k
          · rw [hjk]; exact ⟨hs2, hs3⟩
          · exact HK.out j (by omega)
        clear hbad hs2 hs3
        generalize os k = x at *
        generalize ds (k + 1) = dx at *
        go_wp2
        have hw1 : IntKind.i64.wrap ((k : Int) + 1) = (k : Int) + 1 := IntWalk.i64_in _ (by omega)
        have hw2 : 0 ≤ (k : Int) + 1 := by omega
        have hw3 : (k : Int) + 1 < (n1 : Int) + 2 := by omega
        have hw4 : ((k : Int) + 1).toNat = k + 1 := by omega
        go_region_law ((refine step_append_lies _ (by rfl) _ _ _ (by rfl) w.heap.size 41 i0 _ 5 72 Tryd.underlying42 hi0 hz0 hz1 hz2 rfl (by omega) u15 (k + 1) _ (by rfl) ((hown.alloc _).drew) ⟨wr.heap.size, 0, none⟩ 1 1 [.string eS, .string eS, .string x, .string eS, .int .i64 dx] (by rfl) (by rfl) (World.news_of_block (cs := #[.string eS, .string eS, .string x, .string eS, .int .i64 dx]) (t := 41) (fr := (0, 0)) (heap_alloc_new wr _)) (by simp [Value.oneCell']) (by omega) (by simp only [maxLen]; omega) (by omega) (by have := hb.size; simp; omega) (wr.heap.size + 1) (by simp) ?_; intro gg cap w1 hown1 hgrow hat hlt1))
        all_goals
          have hb5 : Below w.heap.size w w1 := ((hb.alloc hb.size _).drew).grown hgrow (by have := hb.size; simp; omega) (fun q hq => (hown.lt q hq).1)
          clear hw1 hw2 hw3 hw4 hcO hcD hgrow hat
          go_wp2
          exact ⟨⟨k + 1, by omega, by go_num, by rw [HS.out, handCells_append]; exact hown1, hb5, HKK.out⟩, by simp [intOf]; omega⟩
    · obtain rfl : k = n1 := by omega
      have hcD := (hb.cell (p := ⟨b2, o2 + (k + 1), none⟩) hb2).trans (HD.out (k + 1) (by omega))
      have hw4 : ((k : Int) + 2 - 1).toNat = k + 1 := by omega
      have hbs := hb.size
      generalize hdx : ds (k + 1) = dx at *
      have HDX := Lib.hid hdx
      clear hdx hlt
      go_wp2_with (at_builtin; refine wpList_append_lies _ rfl (.tmp 107) (.tmp 116) _ rfl w.heap.size 41 i0 _ 5 72 Tryd.underlying42 hi0 hz0 hz1 hz2 rfl (by omega) u15 (k + 1) _ rfl (hown.alloc _) ⟨wr.heap.size, 0, none⟩ 1 1 [.string eS, .string eS, .string to, .string eS, .int .i64 dx] rfl rfl (World.news_of_block (cs := #[.string eS, .string eS, .string to, .string eS, .int .i64 dx]) (t := 41) (fr := (0, 0)) (heap_alloc_new wr _)) (by simp [Value.oneCell']) (by omega) (by simp only [maxLen]; omega) (by omega) (by simp; omega) (wr.heap.size + 1) (by simp) ?_; intro gg cap w1 hown1 hgrow hat hlt1)
      have hb5 : Below w.heap.size w w1 := (hb.alloc hb.size _).grown hgrow (by have := hb.size; simp; omega) (fun q hq => (hown.lt q hq).1)
      have hall : HasHands w1 gg (chainAll fr to os ds k) := HasHands.of_own' (n := k + 1 + 1) (by unfold chainAll; rw [handCells_append, HDX.out]; exact hown1) (by omega)
      have HA := Lib.hid hall
      clear hcD hw4 hbs hown hown1 hgrow hat hb hall
      go_loopw [17] (fun i wq => ∃ q : Nat, 1 ≤ q ∧ q ≤ k + 2 ∧ i = .int .i64 q ∧ (∃ m, wq = w1.drewN m) ∧ ∀ j, j + 1 < q → ds j ≤ ds (j + 1)) (fun i _ => k + 2 - (intOf i).toNat)
      case atStart => exact ⟨1, by omega, by omega, rfl, ⟨0, rfl⟩, fun j hj => by omega⟩
      case round =>
        obtain ⟨q, hq1, hq2, rfl, ⟨m, rfl⟩, hsort⟩ := hrel
        have HSO := Lib.hid hsort
        clear hsort
        by_cases hlt : q < k + 2
        · have hcA := (hb5.cell (p := ⟨b2, o2 + q, none⟩) hb2).trans (HD.out q (by omega))
          have hcB := (hb5.cell (p := ⟨b2, o2 + (q - 1), none⟩) hb2).trans (HD.out (q - 1) (by omega))
          have hw4 : ((q : Int) - 1).toNat = q - 1 := by omega
          have hw5 : IntKind.i64.wrap ((q : Int) - 1) = (q : Int) - 1 := IntWalk.i64_in _ (by omega)
          have hw6 : 1 ≤ (q : Int) := by omega
          have hw7 : 0 ≤ (q : Int) - 1 := by omega
          have hw8 : (q : Int) - 1 < (k : Int) + 2 := by omega
          generalize hda : ds q = da at *
          generalize hdb : ds (q - 1) = db at *
          have HDA := Lib.hid hda
          have HDB := Lib.hid hdb
          clear hda hdb
          by_cases hbad : da < db
          · go_wp2
            go_quiet (fail)
            go_wp2
            go_ret
            exact ⟨rfl, below_drewN (below_drewN hb5 _) _⟩
          · go_wp2
            go_quiet (fail)
            go_wp2
            refine ⟨⟨q + 1, by omega, by omega, by go_num, ⟨_, rfl⟩, fun j hj => ?_⟩, by simp [intOf]; omega⟩
            by_cases hjq : j + 1 = q
            · have : j = q - 1 := by omega
              subst this
              rw [hjq, HDA.out, HDB.out]; omega
            · exact HSO.out j (by omega)
        · have hw := way_cases t hi fr to HFT.out os ds k d e hde HK.out (fun j hj => HSO.out j (by omega))
          simp only [] at hw
          have hs1 := scan_isSome (fr := fr) (to := to) (os := os) (n := k) d (fun j hj => HSO.out j (by omega))
          have hs2 := scan_isSome (fr := fr) (to := to) (os := os) (n := k) e (fun j hj => HSO.out j (by omega))
          have B1 := Lib.hid fun (W : World) (hT : Terms pa W) (hb : HasHands W gg (chainAll fr to os ds k)) => bearer_any pa t gg (k + 1 + 1) cap (chainAll fr to os ds k) d fr to W hT hi HFT.out (chainAll_length _ _ _ _ _).symm (by omega) hb
          have B2 := Lib.hid fun (W : World) (hT : Terms pa W) (hb : HasHands W gg (chainAll fr to os ds k)) => bearer_any pa t gg (k + 1 + 1) cap (chainAll fr to os ds k) e fr to W hT hi HFT.out (chainAll_length _ _ _ _ _).symm (by omega) hb
          have hbq : Below w1.heap.size w1 (w1.drewN m) := below_drewN (Below.refl _ _) m
          have hT1 : Terms pa (w1.drewN m) := (hT0.below hb5 (Nat.le_refl _)).below hbq (Nat.le_refl _)
          have hH1 : HasHands (w1.drewN m) gg (chainAll fr to os ds k) := HA.out.below hbq (Nat.le_refl _)
          have hb6 : Below w.heap.size w (w1.drewN m) := below_drewN hb5 m
          have hd0 : (w1.drewN m).cell? ⟨b2, o2, none⟩ = some (.int .i64 (ds 0)) := by
            have := (hb6.cell (p := ⟨b2, o2 + 0, none⟩) hb2).trans (HD.out 0 (by omega))
            simpa using this
          have hlow : b2 < (w1.drewN m).heap.size := Nat.lt_of_lt_of_le hb2 hb6.size
          generalize bearS t fr to (scan d (chainAll fr to os ds k) none) = SA at *
          generalize bearS t fr to (scan e (chainAll fr to os ds k) none) = SB at *
          rw [hs1] at B1
          rw [hs2] at B2
          have hqk : k + 2 ≤ q := by omega
          clear hs1 hs2 hT0 hlt hbq
          generalize ds 0 = dz at *
          have hne2 := str_bne (Ne.symm HFT.out)
          have hse : ∀ x : ByteArray, (x.toList == x.toList) = true := fun x => by simp
          rcases hw with ⟨c1, c2⟩ | ⟨c1, c2, rfl⟩ | ⟨c1, c2, rfl⟩ | ⟨c1, rfl, rfl⟩ | ⟨c1, rfl, rfl⟩ | ⟨c1, rfl, rfl⟩
          all_goals
            go_wp2_with (first
              | (go_at_call 25; ((with_reducible refine (B1.out _ hT1 hH1).mono ?_); rintro ee w3 ⟨rfl, hb7⟩; have hd1 := (hb7.cell (p := ⟨b2, o2, none⟩) hlow).trans hd0; have hT2 := hT1.below hb7 (Nat.le_refl _); have hH2 := hH1.below hb7 (Nat.le_refl _); have hlow2 : b2 < w3.heap.size := Nat.lt_of_lt_of_le hlow hb7.size; clear hT1 hH1 hd0))
              | (go_at_call 25; ((with_reducible refine (B2.out _ hT2 hH2).mono ?_); rintro ee w4 ⟨rfl, hb8⟩; have hd2 := (hb8.cell (p := ⟨b2, o2, none⟩) hlow2).trans hd1; clear hT2 hH2 hd1)))
          all_goals (go_ret; exact ⟨rfl, (hb6.trans (hb7.mono hb6.size)).trans (hb8.mono (Nat.le_trans hb6.size hb7.size))⟩)
end Go.Proofs.YtlmbdpncbmfopaaDoor
