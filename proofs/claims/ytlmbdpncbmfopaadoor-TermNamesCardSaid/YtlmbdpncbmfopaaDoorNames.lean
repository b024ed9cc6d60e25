/- The walk of TermNames over any tables of terms and stages: it returns true, old memory is as it was. -/
import Derived.Test.YtlmbdpncbmfopaaDoorNamesW
namespace Go.Proofs.YtlmbdpncbmfopaaDoor
open Go.RowKit

structure Both (pa : Nat → Addr) (w : World) : Prop where
  terms : Terms pa w
  blk : Blk32 w
  stgs : HasStrs w ⟨1, 0, none⟩ stages

theorem Both.below {pa : Nat → Addr} {w w' : World} {B : Nat} (h : Both pa w) (hb : Below B w w') (hB : w.heap.size ≤ B) : Both pa w' := by
  refine ⟨h.terms.below hb hB, ?_, h.stgs.below hb hB⟩
  obtain ⟨cs, t, fr, h1, h2⟩ := h.blk
  have := h.terms.size
  exact ⟨cs, t, fr, by rw [hb.block 0 (by omega)]; exact h1, h2⟩

theorem sb {pa : Nat → Addr} {f : FuncId} {args : Array Value} {w0 w : World} {v : Value} (C : Calls Tryd.prog f args w fun e w' => e = .returned v ∧ Below w.heap.size w w') (hT : Both pa w) (hb : Below w0.heap.size w0 w) :
    Calls Tryd.prog f args w fun e w' => e = .returned v ∧ Below w0.heap.size w0 w' ∧ Both pa w' :=
  C.mono fun _ _ h => ⟨h.1, hb.trans (h.2.mono hb.size), hT.below h.2 (Nat.le_refl _)⟩
theorem sbs {pa : Nat → Addr} {f : FuncId} {args : Array Value} {w0 w : World} {l : List ByteArray} (C : Calls Tryd.prog f args w fun e w' => ∃ g, e = .returned (.slice (some ⟨g, 0, none⟩) 8 8) ∧ HasStrs w' ⟨g, 0, none⟩ l ∧ Below w.heap.size w w') (hT : Both pa w) (hb : Below w0.heap.size w0 w) :
    Calls Tryd.prog f args w fun e w' => ∃ g, e = .returned (.slice (some ⟨g, 0, none⟩) 8 8) ∧ HasStrs w' ⟨g, 0, none⟩ l ∧ Below w0.heap.size w0 w' ∧ Both pa w' :=
  C.mono fun _ _ ⟨g, h1, h2, h3⟩ => ⟨g, h1, h2, hb.trans (h3.mono hb.size), hT.below h3 (Nat.le_refl _)⟩

theorem find_name (t : Int) (hi : inT t = true) : findI names (nameOf t) = t ∧ names[t.toNat]? = some (nameOf t) := by
  have h1 : ∀ i : Fin 8, findI names (nameOf (i.val : Int)) = (i.val : Int) ∧ names[(i.val : Int).toNat]? = some (nameOf (i.val : Int)) := by decide +kernel
  obtain ⟨a0, a1⟩ := (inT_iff t).1 hi
  obtain ⟨i, rfl⟩ := Int.eq_ofNat_of_zero_le a0
  exact h1 ⟨i, by omega⟩

set_option maxHeartbeats 1000000 in
theorem names_any (pa : Nat → Addr) (t : Int) (s : ByteArray) (w : World) (hT : Both pa w) (hsz : s.size ≤ maxLen) :
    Calls Tryd.prog 7 #[.int .i64 t, .string s] w fun e w' => e = .returned (.bool true) ∧ Below w.heap.size w w' := by
  have hb := Below.refl w.heap.size w
  unfold maxLen at hsz
  by_cases hlong : 1000 < s.size
  · go_enter Tryd.func7, Tryd.ntmps7
    go_wp2_with (first
      | (go_at_call 9; refine (sb (awake_any pa _ hT.terms) hT hb).mono ?_; clear hT hb; rintro e w1 ⟨rfl, hb, hT⟩))
    go_ret
    exact ⟨rfl, hb⟩
  · have H1 := Lib.hid fun w (hT : Both pa w) => parse_any pa s w hT.terms hT.blk
    have H2 := Lib.hid fun w (hT : Both pa w) => stage_any s w hT.stgs
    have H3 := Lib.hid fun g w h => find_any g 8 8 names s w rfl (by omega) h
    have H4 := Lib.hid fun g w h => find_any g 8 8 stages s w rfl (by omega) h
    generalize findI names s = F at *
    generalize findI stages s = G at *
    cases hi : inT t with
    | false =>
      have e1 := Lib.hid (show nameOf t = eS by unfold nameOf; rw [if_neg (by rw [hi]; decide)])
      go_enter Tryd.func7, Tryd.ntmps7
      go_wp2_with (first
        | (go_at_call 9; refine (sb (awake_any pa _ hT.terms) hT hb).mono ?_; clear hT hb; rintro e w1 ⟨rfl, hb, hT⟩)
        | (go_at_call 19; refine (sb (H1.out _ hT) hT hb).mono ?_; clear hT hb; rintro e w1 ⟨rfl, hb, hT⟩)
        | (go_at_call 20; refine (sb (H2.out _ hT) hT hb).mono ?_; clear hT hb; rintro e w1 ⟨rfl, hb, hT⟩)
        | (go_at_call 22; refine (sbs (refnames_any _) hT hb).mono ?_; clear hT hb; rintro e w1 ⟨g, rfl, hs, hb, hT⟩)
        | (go_at_call 23; refine (sbs (refstages_any _) hT hb).mono ?_; clear hT hb; rintro e w1 ⟨g2, rfl, hs2, hb, hT⟩)
        | (go_at_call 21; refine (sb (H3.out _ _ hs) hT hb).mono ?_; clear hT hb hs; rintro e w1 ⟨rfl, hb, hT⟩)
        | (go_at_call 21; refine (sb (H4.out _ _ hs2) hT hb).mono ?_; clear hT hb hs2; rintro e w1 ⟨rfl, hb, hT⟩)
        | (go_at_call 10; refine (is_any _ _).mono ?_; rintro e w1 ⟨rfl, rfl⟩)
        | (go_at_call 24; refine (sb (name_any pa _ _ hT.terms) hT hb).mono ?_; clear hT hb; rintro e w1 ⟨rfl, hb, hT⟩; rw [e1.out]))
      all_goals (go_ret; exact ⟨rfl, hb⟩)
    | true =>
      obtain ⟨t0, t8⟩ := (inT_iff t).1 hi
      obtain ⟨f1, f2⟩ := find_name t hi
      have H5 := Lib.hid fun w (hT : Both pa w) => parse_any pa (nameOf t) w hT.terms hT.blk
      rw [f1] at H5
      have e1 : max t 0 = t := by omega
      have e2 : decide (0 ≤ t) = true := by simpa using t0
      rw [e1, e2] at H5
      have F2 := Lib.hid f2
      have HN := Lib.hid fun w (hT : Both pa w) => name_any pa t w hT.terms
      clear f1 f2 e1 e2
      generalize nameOf t = nm at *
      go_enter Tryd.func7, Tryd.ntmps7
      go_wp2_with (first
        | (go_at_call 9; refine (sb (awake_any pa _ hT.terms) hT hb).mono ?_; clear hT hb; rintro e w1 ⟨rfl, hb, hT⟩)
        | (go_at_call 19; ((with_reducible refine (sb (H1.out _ hT) hT hb).mono ?_); clear hT hb; rintro e w1 ⟨rfl, hb, hT⟩))
        | (go_at_call 19; ((with_reducible refine (sb (H5.out _ hT) hT hb).mono ?_); clear hT hb; rintro e w1 ⟨rfl, hb, hT⟩))
        | (go_at_call 20; refine (sb (H2.out _ hT) hT hb).mono ?_; clear hT hb; rintro e w1 ⟨rfl, hb, hT⟩)
        | (go_at_call 22; refine (sbs (refnames_any _) hT hb).mono ?_; clear hT hb; rintro e w1 ⟨g, rfl, hs, hb, hT⟩; have hcl := hs.2 _ _ F2.out; rw [Addr.add_lit, Nat.zero_add] at hcl)
        | (go_at_call 23; refine (sbs (refstages_any _) hT hb).mono ?_; clear hT hb; rintro e w1 ⟨g2, rfl, hs2, hb, hT⟩)
        | (go_at_call 21; refine (sb (H3.out _ _ hs) hT hb).mono ?_; clear hT hb hs hcl; rintro e w1 ⟨rfl, hb, hT⟩)
        | (go_at_call 21; refine (sb (H4.out _ _ hs2) hT hb).mono ?_; clear hT hb hs2; rintro e w1 ⟨rfl, hb, hT⟩)
        | (go_at_call 10; refine (is_any _ _).mono ?_; rintro e w1 ⟨rfl, rfl⟩)
        | (go_at_call 24; refine (sb (HN.out _ hT) hT hb).mono ?_; clear hT hb; rintro e w1 ⟨rfl, hb, hT⟩))
      all_goals (go_ret; exact ⟨rfl, hb⟩)

end Go.Proofs.YtlmbdpncbmfopaaDoor
