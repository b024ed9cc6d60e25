/- The walk of TermPapers over any table of terms: it returns true, old memory is as it was. -/
import Derived.Test.YtlmbdpncbmfopaaDoorNeeds
namespace Go.Proofs.YtlmbdpncbmfopaaDoor
open Go.RowKit

def hasIn (zs : List Int) (k : Nat) (z : Int) : Bool := (zs.take k).contains z
theorem hasIn_zero (zs : List Int) (z : Int) : hasIn zs 0 z = false := by simp [hasIn]
theorem hasIn_succ (zs : List Int) (k : Nat) (z u : Int) (h : zs[k]? = some u) : hasIn zs (k + 1) z = (hasIn zs k z || (u == z)) := by
  unfold hasIn
  rw [List.take_add_one, h, Option.toList_some, List.contains_append, List.contains_cons, List.contains_nil, Bool.or_false]
  rw [Bool.beq_comm]

theorem papers_facts (t : Int) (hi : inT t = true) : (papersOf t)[0]? = some 0 ∧ (papersOf t)[1]? = some 1 ∧
    hasIn (papersOf t) (papersOf t).length 2 = decide (2 < costOf t) ∧ hasIn (papersOf t) (papersOf t).length 3 = decide (t = 4) ∧
    ∀ k : Nat, k < 4 → (k + 1 < (papersOf t).length → (papersOf t).getD k 0 < (papersOf t).getD (k + 1) 0) := by
  have h1 : ∀ i : Fin 8, (papersOf (i.val : Int))[0]? = some 0 ∧ (papersOf (i.val : Int))[1]? = some 1 ∧
    hasIn (papersOf (i.val : Int)) (papersOf (i.val : Int)).length 2 = decide (2 < costOf (i.val : Int)) ∧ hasIn (papersOf (i.val : Int)) (papersOf (i.val : Int)).length 3 = decide ((i.val : Int) = 4) ∧
    ∀ k : Nat, k < 4 → (k + 1 < (papersOf (i.val : Int)).length → (papersOf (i.val : Int)).getD k 0 < (papersOf (i.val : Int)).getD (k + 1) 0) := by decide +kernel
  obtain ⟨a0, a1⟩ := (inT_iff t).1 hi
  obtain ⟨i, rfl⟩ := Int.eq_ofNat_of_zero_le a0
  exact h1 ⟨i, by omega⟩

theorem bool_eq {a b : Bool} (h : a = b) : Value.bool a = Value.bool b := by rw [h]

set_option maxHeartbeats 1000000 in
theorem papers_in (pa : Nat → Addr) (t : Int) (w : World) (hT : Terms pa w) (hi : inT t = true) :
    Calls Tryd.prog 6 #[.int .i64 t] w fun e w' => e = .returned (.bool true) ∧ Below w.heap.size w w' := by
  have hb := Below.refl w.heap.size w
  obtain ⟨hl1, hl2⟩ := papers_len t hi
  obtain ⟨f0, f1, f2, f3, f4⟩ := papers_facts t hi
  have HN := Lib.hid fun w hT => needs_in pa t w hT hi
  have F0 := Lib.hid f0; have F1 := Lib.hid f1; have F2 := Lib.hid f2; have F3 := Lib.hid f3; have F4 := Lib.hid f4
  clear f0 f1 f2 f3 f4
  generalize hpp : papersOf t = zs at *
  clear hpp
  generalize hct : costOf t = ct at *
  have ict := Lib.hid hct
  clear hct
  go_enter Tryd.func6, Tryd.ntmps6
  go_wp2_with (first
    | (go_at_call 9; refine (st (awake_any pa _ hT) hT hb).mono ?_; clear hT hb; rintro e w1 ⟨rfl, hb, hT⟩)
    | (go_at_call 10; refine (is_any _ _).mono ?_; rintro e w1 ⟨rfl, rfl⟩)
    | (go_at_call 14; refine (HN.out _ hT).mono ?_; rintro e w2 ⟨v, rfl, hv, hb2⟩; obtain ⟨g, cap, rfl, hg1, hg2, hg3⟩ := hv; have hT2 := hT.below hb2 (Nat.le_refl _); have hb3 := hb.trans (hb2.mono hb.size); clear hT hb hb2))
  have HG := Lib.hid hg3
  clear hg3
  go_loopw [4, 5, 6] (fun la ins i wr => ∃ k : Nat, k ≤ zs.length ∧ i = .int .i64 k ∧ la = .bool (hasIn zs k 2) ∧ ins = .bool (hasIn zs k 3) ∧ ∃ m, wr = w2.drewN m) (fun _ _ i _ => zs.length - (intOf i).toNat)
  case atStart => exact ⟨0, by omega, rfl, by rw [hasIn_zero], by rw [hasIn_zero], 0, rfl⟩
  case round =>
    obtain ⟨k, hk, rfl, rfl, rfl, m, rfl⟩ := hrel
    by_cases hlt : k < zs.length
    · have hku : zs[k]? = some (zs.getD k 0) := by rw [List.getD_eq_getElem?_getD, List.getElem?_eq_getElem hlt]; rfl
      have hcell := HG.out k _ hku
      have e2 := Lib.hid (hasIn_succ zs k 2 _ hku)
      have e3 := Lib.hid (hasIn_succ zs k 3 _ hku)
      have hk4 : k < 4 := by omega
      by_cases hk0 : 0 < k
      · have hprev : zs[k - 1]? = some (zs.getD (k - 1) 0) := by rw [List.getD_eq_getElem?_getD, List.getElem?_eq_getElem (by omega)]; rfl
        have hcell' := HG.out (k - 1) _ hprev
        have hless : zs.getD (k - 1) 0 < zs.getD k 0 := by
          have := F4.out (k - 1) (by omega) (by omega)
          rwa [show k - 1 + 1 = k from by omega] at this
        have hd : decide (0 < (k : Int)) = true := by simpa using hk0
        clear hku hprev
        generalize zs.getD (k - 1) 0 = u0 at *
        generalize zs.getD k 0 = u1 at *
        have a1 : ((k : Int) - 1).toNat = k - 1 := by omega
        go_wp2
        go_quiet (fail)
        go_wp2
        all_goals exact ⟨⟨k + 1, by omega, by go_num, bool_eq (by rw [e2.out]; first | (rw [show hasIn zs k 2 = true from by assumption]; rfl) | (rw [show hasIn zs k 2 = false from Bool.eq_false_iff.2 (by assumption)]; rfl)),
          bool_eq (by rw [e3.out]; first | (rw [show hasIn zs k 3 = true from by assumption]; rfl) | (rw [show hasIn zs k 3 = false from Bool.eq_false_iff.2 (by assumption)]; rfl)), _, rfl⟩, by simp [intOf]; omega⟩
      · have hd : decide (0 < (k : Int)) = false := by simpa using hk0
        clear hku
        generalize zs.getD k 0 = u1 at *
        go_wp2
        go_quiet (fail)
        go_wp2
        all_goals exact ⟨⟨k + 1, by omega, by go_num, bool_eq (by rw [e2.out]; first | (rw [show hasIn zs k 2 = true from by assumption]; rfl) | (rw [show hasIn zs k 2 = false from Bool.eq_false_iff.2 (by assumption)]; rfl)),
          bool_eq (by rw [e3.out]; first | (rw [show hasIn zs k 3 = true from by assumption]; rfl) | (rw [show hasIn zs k 3 = false from Bool.eq_false_iff.2 (by assumption)]; rfl)), _, rfl⟩, by simp [intOf]; omega⟩
    · obtain rfl : k = zs.length := by omega
      have hT3 : Terms pa (w2.drewN m) := hT2.below (below_drewN (Below.refl w2.heap.size w2) m) (Nat.le_refl _)
      have hP := Lib.hid (passes_any pa t _ hT3)
      have h2 := F2.out
      have h3 := F3.out
      rw [h2, h3]
      clear h2 h3
      have hz : ((zs.length : Nat) : Int) ≥ 2 := by omega
      have d0 := HG.out 0 _ F0.out
      have d1 := HG.out 1 _ F1.out
      clear hT2 hT3
      go_wp2_with (first
        | (go_at_call 13; refine (hP.out).mono ?_; rintro e w3 ⟨rfl, hb4⟩; rw [ict.out]; have d2 := (hb4.cell (p := ⟨g, 0, none⟩) hg2).trans d0; have d3 := (hb4.cell (p := ⟨g, 1, none⟩) hg2).trans d1))
      go_ret
      exact ⟨ret_b (by by_cases h : t = 4 <;> simp [h]), hb3.trans ((below_drewN (Below.refl _ _) m).trans (hb4.mono (by simpa using hb3.size)))⟩

theorem papers_any (pa : Nat → Addr) (t : Int) (w : World) (hT : Terms pa w) :
    Calls Tryd.prog 6 #[.int .i64 t] w fun e w' => e = .returned (.bool true) ∧ Below w.heap.size w w' := by
  cases hi : inT t with
  | true => exact papers_in pa t w hT hi
  | false =>
    have hb := Below.refl w.heap.size w
    go_enter Tryd.func6, Tryd.ntmps6
    go_wp2_with (first
      | (go_at_call 9; refine (st (awake_any pa _ hT) hT hb).mono ?_; clear hT hb; rintro e w1 ⟨rfl, hb, hT⟩)
      | (go_at_call 10; refine (is_any _ _).mono ?_; rintro e w1 ⟨rfl, rfl⟩)
      | (go_at_call 14; refine (st (needs_out pa _ _ hT hi) hT hb).mono ?_; clear hT hb; rintro e w1 ⟨rfl, hb, hT⟩))
    go_ret
    exact ⟨rfl, hb⟩
end Go.Proofs.YtlmbdpncbmfopaaDoor
