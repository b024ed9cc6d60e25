/- The walks of the delivery-terms functions: what each call returns, and that old memory is as it was. -/
import Derived.Test.YtlmbdpncbmfopaaDoorProg
import Derived.WalkKit
import Derived.Outline
import Derived.BigQuiet
import Derived.Deep.QuietTactic
import Derived.Lib.Hide
import Derived.WalkSmall
import Derived.Handy
namespace Go.Proofs.YtlmbdpncbmfopaaDoor
open Go.RowKit

abbrev eS : ByteArray := { data := #[] }
abbrev buyS : ByteArray := { data := #[98, 117, 121, 101, 114] }
abbrev selS : ByteArray := { data := #[115, 101, 108, 108, 101, 114] }

/-- Is it a number of one of eight? -/
def inT (t : Int) : Bool := decide (0 ≤ t) && decide (t ≤ 7)
def costs : List Int := [1, 2, 3, 5, 5, 5, 6, 7]
def risks : List Int := [1, 2, 3, 2, 3, 5, 6, 7]
def costOf (t : Int) : Int := if inT t = true then costs.getD t.toNat 0 else 0
def riskOf (t : Int) : Int := if inT t = true then risks.getD t.toNat 0 else 0
def names : List ByteArray := [
  ⟨#[97, 116, 45, 119, 111, 114, 107, 115]⟩, ⟨#[116, 111, 45, 99, 97, 114, 114, 105, 101, 114]⟩, ⟨#[111, 110, 45, 98, 111, 97, 114, 100]⟩,
  ⟨#[102, 114, 101, 105, 103, 104, 116, 45, 112, 97, 105, 100]⟩, ⟨#[105, 110, 115, 117, 114, 101, 100]⟩, ⟨#[108, 97, 110, 100, 101, 100]⟩,
  ⟨#[99, 108, 101, 97, 114, 101, 100]⟩, ⟨#[97, 116, 45, 100, 111, 111, 114]⟩]
def nameOf (t : Int) : ByteArray := if inT t = true then names.getD t.toNat eS else eS
def papers : List (List Int) := [[0, 1], [0, 1], [0, 1, 2], [0, 1, 2], [0, 1, 2, 3], [0, 1, 2], [0, 1, 2, 4], [0, 1, 2, 4]]
def papersOf (t : Int) : List Int := if inT t = true then papers.getD t.toNat [] else []

/-- The table of terms reads so: the cells of variable 0, and of the papers that it points to. -/
structure Terms (pa : Nat → Addr) (w : World) : Prop where
  size : 0 < w.heap.size
  name : ∀ k, k < 8 → w.cell? ⟨0, k * 4, none⟩ = some (.string (nameOf k))
  cost : ∀ k, k < 8 → w.cell? ⟨0, k * 4 + 1, none⟩ = some (.int .i64 (costOf k))
  risk : ∀ k, k < 8 → w.cell? ⟨0, k * 4 + 2, none⟩ = some (.int .i64 (riskOf k))
  pap : ∀ k : Nat, k < 8 → w.cell? ⟨0, k * 4 + 3, none⟩ = some (.slice (some (pa k)) (papersOf k).length (papersOf k).length)
  low : ∀ k : Nat, k < 8 → (pa k).block < w.heap.size
  cells : ∀ k : Nat, k < 8 → ∀ j u, (papersOf k)[j]? = some u → w.cell? ((pa k).add j) = some (.int .i64 u)

theorem add_block (a : Addr) (j : Nat) : (a.add j).block = a.block := by unfold Addr.add; split <;> rfl

theorem Terms.below {pa : Nat → Addr} {w w' : World} {B : Nat} (h : Terms pa w) (hb : Below B w w') (hB : w.heap.size ≤ B) : Terms pa w' := by
  have h0 := h.size
  refine ⟨Nat.lt_of_lt_of_le h.size hb.size, ?_, ?_, ?_, ?_, fun k hk => Nat.lt_of_lt_of_le (h.low k hk) hb.size, ?_⟩
  · intro k hk; rw [hb.cell (by show 0 < B; omega)]; exact h.name k hk
  · intro k hk; rw [hb.cell (by show 0 < B; omega)]; exact h.cost k hk
  · intro k hk; rw [hb.cell (by show 0 < B; omega)]; exact h.risk k hk
  · intro k hk; rw [hb.cell (by show 0 < B; omega)]; exact h.pap k hk
  · intro k hk j u hu
    have := h.low k hk
    rw [hb.cell (by rw [add_block]; omega)]; exact h.cells k hk j u hu

theorem inT_iff (t : Int) : inT t = true ↔ 0 ≤ t ∧ t < 8 := by unfold inT; simp; omega
theorem inT_not (t : Int) : inT t = false ↔ t < 0 ∨ 8 ≤ t := by
  rw [← Bool.not_eq_true, inT_iff]; omega

def sliceOf (pa : Nat → Addr) (t : Int) : Value := if inT t = true then .slice (some (pa t.toNat)) (papersOf t).length (papersOf t).length else .slice none 0 0

set_option maxHeartbeats 400000 in
theorem of_in (t : Int) (w : World) (h0 : 0 ≤ t) (h1 : t < 8) (hz : 0 < w.heap.size) (s : ByteArray) (c r : Int) (pa : Option Addr) (pl pc : Nat)
    (hn : w.cell? ⟨0, t.toNat * 4, none⟩ = some (.string s)) (hc : w.cell? ⟨0, t.toNat * 4 + 1, none⟩ = some (.int .i64 c))
    (hr : w.cell? ⟨0, t.toNat * 4 + 2, none⟩ = some (.int .i64 r)) (hp : w.cell? ⟨0, t.toNat * 4 + 3, none⟩ = some (.slice pa pl pc)) :
    Calls Tryd.prog 27 #[.int .i64 t] w fun e w' => e = .returned (.tuple #[.agg #[.string s, .int .i64 c, .int .i64 r, .slice pa pl pc], .bool true]) ∧ Below w.heap.size w w' := by
  go_enter Tryd.func27, Tryd.ntmps27
  go_wp2
  exact bodyPost_ret (v := .tuple #[.agg #[.string s, .int .i64 c, .int .i64 r, .slice pa pl pc], .bool true]) (by simp [results, Tryd.results27, go_sem]) rfl ⟨rfl, (Below.refl _ _).alloc (Nat.le_refl _) _⟩

set_option maxHeartbeats 400000 in
theorem of_out (t : Int) (w : World) (h : t < 0 ∨ 8 ≤ t)  :
    Calls Tryd.prog 27 #[.int .i64 t] w fun e w' => e = .returned (.tuple #[.agg #[.string eS, .int .i64 0, .int .i64 0, .slice none 0 0], .bool false]) ∧ Below w.heap.size w w' := by
  rcases h with h | h
  · go_enter Tryd.func27, Tryd.ntmps27
    go_wp2
    exact bodyPost_ret (v := .tuple #[.agg #[.string eS, .int .i64 0, .int .i64 0, .slice none 0 0], .bool false]) (by simp [results, Tryd.results27, go_sem]) rfl ⟨rfl, (Below.refl _ _).alloc (Nat.le_refl _) _⟩
  · have h' : ¬ t < 0 := by omega
    go_enter Tryd.func27, Tryd.ntmps27
    go_wp2
    exact bodyPost_ret (v := .tuple #[.agg #[.string eS, .int .i64 0, .int .i64 0, .slice none 0 0], .bool false]) (by simp [results, Tryd.results27, go_sem]) rfl ⟨rfl, (Below.refl _ _).alloc (Nat.le_refl _) _⟩

/-- of: what it returns, whatever the number. -/
theorem of_any (pa : Nat → Addr) (t : Int) (w : World) (hT : Terms pa w) :
    Calls Tryd.prog 27 #[.int .i64 t] w fun e w' => ∃ a l c, sliceOf pa t = .slice a l c ∧ e = .returned (.tuple #[.agg #[.string (nameOf t), .int .i64 (costOf t), .int .i64 (riskOf t), .slice a l c], .bool (inT t)]) ∧ Below w.heap.size w w' := by
  cases hi : inT t with
  | true =>
    obtain ⟨h0, h1⟩ := (inT_iff t).1 hi
    obtain ⟨k, rfl⟩ := Int.eq_ofNat_of_zero_le h0
    have hk : k < 8 := by omega
    refine (of_in k w h0 h1 hT.size _ _ _ _ _ _ (hT.name k hk) (hT.cost k hk) (hT.risk k hk) (hT.pap k hk)).mono ?_
    rintro e w' ⟨rfl, hb⟩
    exact ⟨some (pa k), (papersOf k).length, (papersOf k).length, by unfold sliceOf; rw [if_pos hi]; rfl, rfl, hb⟩
  | false =>
    have h := (inT_not t).1 hi
    refine (of_out t w h).mono ?_
    rintro e w' ⟨rfl, hb⟩
    have hno : ¬ inT t = true := by rw [hi]; decide
    refine ⟨none, 0, 0, by unfold sliceOf; rw [if_neg hno], ?_, hb⟩
    unfold nameOf costOf riskOf
    rw [if_neg hno, if_neg hno, if_neg hno]

theorem bcell {W w1 : World} (hb : Below W.heap.size W w1) : (∀ b o, b < W.heap.size → w1.cell? ⟨b, o, none⟩ = W.cell? ⟨b, o, none⟩) ∧ (∀ b o, b < W.heap.size → w1.frozen? ⟨b, o, none⟩ = W.frozen? ⟨b, o, none⟩) :=
  ⟨fun b o h => hb.cell (p := ⟨b, o, none⟩) h, fun b o h => hb.frozen (p := ⟨b, o, none⟩) h⟩

/-- Passes. -/
theorem passes_any (pa : Nat → Addr) (t : Int) (w : World) (hT : Terms pa w) :
    Calls Tryd.prog 13 #[.int .i64 t] w fun e w' => e = .returned (.tuple #[.int .i64 (costOf t), .int .i64 (riskOf t)]) ∧ Below w.heap.size w w' := by
  have HH := Lib.hid (of_any pa t w hT)
  clear hT
  go_enter Tryd.func13, Tryd.ntmps13
  go_wp2_with (go_at_call 27; refine (HH.out).mono ?_; rintro e w1 ⟨a, l, c, hs, rfl, hb⟩; clear hs)
  go_quiet (fail)
  go_wp2
  go_ret2
  exact ⟨rfl, below_drewN (hb.alloc hb.size _) _⟩

/-- Is. -/
theorem is_any (t : Int) (w : World) : Calls Tryd.prog 10 #[.int .i64 t] w fun e w' => e = .returned (.bool (inT t)) ∧ w = w' := by
  by_cases h0 : 0 ≤ t
  · have hi : inT t = decide (t ≤ 7) := by unfold inT; simp [h0]
    rw [hi]; clear hi
    go_enter Tryd.func10, Tryd.ntmps10
    go_wp2
    all_goals (go_ret; exact ⟨rfl, rfl⟩)
  · have hi : inT t = false := by unfold inT; simp [h0]
    rw [hi]; clear hi
    go_enter Tryd.func10, Tryd.ntmps10
    go_wp2
    all_goals (go_ret; exact ⟨rfl, rfl⟩)

def bs (b : Bool) : ByteArray := if b = true then buyS else selS
theorem bs_buy (b : Bool) : (bs b == buyS) = b := by cases b <;> rfl
theorem bs_sel (b : Bool) : (bs b == selS) = !b := by cases b <;> rfl
theorem bs_e (b : Bool) : (bs b == eS) = false := by cases b <;> rfl
/-- Whose a stage is. -/
def sideS (t stage from_ : Int) : ByteArray := if (inT t && inT stage) = true then bs (decide (from_ ≤ stage)) else eS

/-- side. -/
theorem side_any (pa : Nat → Addr) (t stage from_ : Int) (w : World) (hT : Terms pa w) :
    Calls Tryd.prog 26 #[.int .i64 t, .int .i64 stage, .int .i64 from_] w fun e w' => e = .returned (.string (sideS t stage from_)) ∧ Below w.heap.size w w' := by
  have HH := Lib.hid (of_any pa t w hT)
  clear hT
  cases hi : inT t with
  | false =>
    have hs : sideS t stage from_ = eS := by unfold sideS; rw [if_neg (by simp [hi])]
    rw [hs]; clear hs
    go_enter Tryd.func26, Tryd.ntmps26
    go_wp2_with (go_at_call 27; refine (HH.out).mono ?_; rintro e w1 ⟨a, l, c, hs, rfl, hb⟩; clear hs)
    all_goals (go_ret; exact ⟨rfl, hb.alloc hb.size _⟩)
  | true =>
    by_cases hst : 0 ≤ stage ∧ stage < 8
    · obtain ⟨h0, h1⟩ := hst
      by_cases hf : from_ ≤ stage
      · have hs : sideS t stage from_ = buyS := by unfold sideS; rw [if_pos (by simp [hi, (inT_iff stage).2 ⟨h0, h1⟩])]; simp [hf, bs]
        rw [hs]; clear hs
        go_enter Tryd.func26, Tryd.ntmps26
        go_wp2_with (go_at_call 27; refine (HH.out).mono ?_; rintro e w1 ⟨a, l, c, hs, rfl, hb⟩; clear hs)
        all_goals (go_ret; exact ⟨rfl, hb.alloc hb.size _⟩)
      · have hs : sideS t stage from_ = selS := by unfold sideS; rw [if_pos (by simp [hi, (inT_iff stage).2 ⟨h0, h1⟩])]; simp [hf, bs]
        rw [hs]; clear hs
        go_enter Tryd.func26, Tryd.ntmps26
        go_wp2_with (go_at_call 27; refine (HH.out).mono ?_; rintro e w1 ⟨a, l, c, hs, rfl, hb⟩; clear hs)
        all_goals (go_ret; exact ⟨rfl, hb.alloc hb.size _⟩)
    · have hs : sideS t stage from_ = eS := by
        unfold sideS; rw [if_neg (by rw [Bool.and_eq_true, inT_iff stage]; intro h; exact hst h.2)]
      rw [hs]; clear hs
      have hst' : stage < 0 ∨ 7 < stage := by omega
      clear hst
      rcases hst' with hst | hst
      · go_enter Tryd.func26, Tryd.ntmps26
        go_wp2_with (go_at_call 27; refine (HH.out).mono ?_; rintro e w1 ⟨a, l, c, hs, rfl, hb⟩; clear hs)
        all_goals (go_ret; exact ⟨rfl, hb.alloc hb.size _⟩)
      · have : ¬ stage < 0 := by omega
        go_enter Tryd.func26, Tryd.ntmps26
        go_wp2_with (go_at_call 27; refine (HH.out).mono ?_; rintro e w1 ⟨a, l, c, hs, rfl, hb⟩; clear hs)
        all_goals (go_ret; exact ⟨rfl, hb.alloc hb.size _⟩)

/-- Pays. -/
theorem pays_any (pa : Nat → Addr) (t stage : Int) (w : World) (hT : Terms pa w) :
    Calls Tryd.prog 11 #[.int .i64 t, .int .i64 stage] w fun e w' => e = .returned (.string (sideS t stage (costOf t))) ∧ Below w.heap.size w w' := by
  go_enter Tryd.func11, Tryd.ntmps11
  go_wp2_with (first
    | (go_at_call 13; refine (passes_any pa _ _ hT).mono ?_; rintro e w1 ⟨rfl, hb⟩)
    | (go_at_call 26; refine (side_any pa _ _ _ _ (hT.below hb (Nat.le_refl _))).mono ?_; rintro e w2 ⟨rfl, hb2⟩))
  go_ret
  exact ⟨rfl, hb.trans (hb2.mono hb.size)⟩

/-- Risk. -/
theorem risk_any (pa : Nat → Addr) (t stage : Int) (w : World) (hT : Terms pa w) :
    Calls Tryd.prog 12 #[.int .i64 t, .int .i64 stage] w fun e w' => e = .returned (.string (sideS t stage (riskOf t))) ∧ Below w.heap.size w w' := by
  go_enter Tryd.func12, Tryd.ntmps12
  go_wp2_with (first
    | (go_at_call 13; refine (passes_any pa _ _ hT).mono ?_; rintro e w1 ⟨rfl, hb⟩)
    | (go_at_call 26; refine (side_any pa _ _ _ _ (hT.below hb (Nat.le_refl _))).mono ?_; rintro e w2 ⟨rfl, hb2⟩))
  go_ret
  exact ⟨rfl, hb.trans (hb2.mono hb.size)⟩

/-- A contract carried along a walk: the table stands, old memory is as it was at the walk's beginning. -/
theorem st {pa : Nat → Addr} {f : FuncId} {args : Array Value} {w0 w : World} {v : Value} (C : Calls Tryd.prog f args w fun e w' => e = .returned v ∧ Below w.heap.size w w') (hT : Terms pa w) (hb : Below w0.heap.size w0 w) :
    Calls Tryd.prog f args w fun e w' => e = .returned v ∧ Below w0.heap.size w0 w' ∧ Terms pa w' :=
  C.mono fun _ _ h => ⟨h.1, hb.trans (h.2.mono hb.size), hT.below h.2 (Nat.le_refl _)⟩

/-- awake. -/
theorem awake_any (pa : Nat → Addr) (w : World) (hT : Terms pa w) :
    Calls Tryd.prog 9 #[] w fun e w' => e = .returned (.bool true) ∧ Below w.heap.size w w' := by
  have e1 : (sideS 4 4 (costOf 4)).toList = [115, 101, 108, 108, 101, 114] := by decide +kernel
  have e2 : (sideS 4 2 (riskOf 4)).toList = [115, 101, 108, 108, 101, 114] := by decide +kernel
  have e3 : (sideS 4 3 (riskOf 4)).toList = [98, 117, 121, 101, 114] := by decide +kernel
  have hb := Below.refl w.heap.size w
  go_enter Tryd.func9, Tryd.ntmps9
  go_wp2_with (first
    | (go_at_call 11; refine (st (pays_any pa _ _ _ hT) hT hb).mono ?_; clear hT hb; rintro e w1 ⟨rfl, hb, hT⟩)
    | (go_at_call 12; refine (st (risk_any pa _ _ _ hT) hT hb).mono ?_; clear hT hb; rintro e w1 ⟨rfl, hb, hT⟩))
  go_ret
  exact ⟨rfl, hb⟩

theorem cost_le (t u : Int) (ht : inT t = true) (hu : inT u = true) (h : t ≤ u) : costOf t ≤ costOf u := by
  have h1 : ∀ i j : Fin 8, i.val ≤ j.val → costOf (i.val : Int) ≤ costOf (j.val : Int) := by decide +kernel
  obtain ⟨a0, a1⟩ := (inT_iff t).1 ht
  obtain ⟨b0, b1⟩ := (inT_iff u).1 hu
  obtain ⟨i, rfl⟩ := Int.eq_ofNat_of_zero_le a0
  obtain ⟨j, rfl⟩ := Int.eq_ofNat_of_zero_le b0
  exact h1 ⟨i, by omega⟩ ⟨j, by omega⟩ (by show i ≤ j; omega)
theorem risk_le (t : Int) (ht : inT t = true) : riskOf t ≤ costOf t := by
  have h1 : ∀ i : Fin 8, riskOf (i.val : Int) ≤ costOf (i.val : Int) := by decide +kernel
  obtain ⟨a0, a1⟩ := (inT_iff t).1 ht
  obtain ⟨i, rfl⟩ := Int.eq_ofNat_of_zero_le a0
  exact h1 ⟨i, by omega⟩

theorem bs_buyL (b : Bool) : ((bs b).toList == [98, 117, 121, 101, 114]) = b := by cases b <;> decide +kernel
theorem bs_selL (b : Bool) : ((bs b).toList == [115, 101, 108, 108, 101, 114]) = !b := by cases b <;> decide +kernel
theorem side_in (t a c : Int) (ht : inT t = true) (ha : inT a = true) : sideS t a c = bs (decide (c ≤ a)) := by
  unfold sideS; rw [ht, ha]; rfl

theorem ret_b {a b : Bool} (h : a = b) : Ending.returned (.bool a) = .returned (.bool b) := by rw [h]

theorem sideS_sel (t : Int) (k : Int) (c : Int) (h0 : 0 ≤ k) (h8 : k < 8) (hc : inT t = false → c = 0) : ((sideS t k c).toList == [115, 101, 108, 108, 101, 114]) = decide (k < c) := by
  cases hi : inT t with
  | true =>
    rw [side_in t k c hi ((inT_iff k).2 ⟨h0, h8⟩), bs_selL]
    by_cases h : k < c
    · rw [decide_eq_true h, decide_eq_false (by omega)]; rfl
    · rw [decide_eq_false h, decide_eq_true (by omega)]; rfl
  | false =>
    have := hc hi
    subst this
    rw [decide_eq_false (by omega)]
    unfold sideS; rw [if_neg (by simp [hi])]; decide +kernel
theorem cost_out (t : Int) (h : inT t = false) : costOf t = 0 := by unfold costOf; rw [if_neg (by rw [h]; decide)]
theorem risk_out (t : Int) (h : inT t = false) : riskOf t = 0 := by unfold riskOf; rw [if_neg (by rw [h]; decide)]
theorem cost_bd (t : Int) : 0 ≤ riskOf t ∧ riskOf t ≤ costOf t ∧ costOf t ≤ 7 := by
  cases hi : inT t with
  | true =>
    have h1 : ∀ i : Fin 8, 0 ≤ riskOf (i.val : Int) ∧ riskOf (i.val : Int) ≤ costOf (i.val : Int) ∧ costOf (i.val : Int) ≤ 7 := by decide +kernel
    obtain ⟨a0, a1⟩ := (inT_iff t).1 hi
    obtain ⟨i, rfl⟩ := Int.eq_ofNat_of_zero_le a0
    exact h1 ⟨i, by omega⟩
  | false => rw [cost_out t hi, risk_out t hi]; omega
theorem int_eq {a b : Int} (h : a = b) : Value.int .i64 a = Value.int .i64 b := by rw [h]

end Go.Proofs.YtlmbdpncbmfopaaDoor
