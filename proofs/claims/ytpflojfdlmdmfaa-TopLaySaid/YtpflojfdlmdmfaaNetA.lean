/- The walks of what netting.Pairs asks of the example's debts: names, a currency, amounts. -/
import Derived.Test.YtpflojfdlmdmfaaBase
namespace Go.Proofs.Ytpflojfdlmdmfaa
open Go.RowKit

abbrev sA : ByteArray := ⟨#[97]⟩
abbrev sB : ByteArray := ⟨#[98]⟩
abbrev sU : ByteArray := ⟨#[85, 83, 68]⟩

set_option maxHeartbeats 1000000 in
theorem lower_any (w : World) (c : Int) (h : c = 97 ∨ c = 98) : Calls Try.prog 65 #[.int .u8 c] w fun e w' => e = .returned (.bool true) ∧ w' = w := by
  rcases h with rfl | rfl
  all_goals
    go_enter Try.func65, Try.ntmps65
    go_wp2_with fail
    go_ret
    exact ⟨rfl, rfl⟩
set_option maxHeartbeats 1000000 in
theorem name1_any (w : World) (c : Int) (h : c = 97 ∨ c = 98) : Calls Try.prog 64 #[.int .u8 c] w fun e w' => e = .returned (.bool true) ∧ w' = w := by
  go_enter Try.func64, Try.ntmps64
  go_wp2_with fail
  refine (lower_any _ c h).mono ?_
  rintro e w1 ⟨rfl, rfl⟩
  go_wp2_with fail
  go_ret
  exact ⟨rfl, rfl⟩
set_option maxHeartbeats 1000000 in
theorem mall_any (w : World) (s : ByteArray) (h : s = sA ∨ s = sB) : Calls Try.prog 63 #[.string s, .func (.func 64) #[] #[]] w fun e w' => e = .returned (.bool true) ∧ w' = w := by
  rcases h with rfl | rfl
  all_goals
    go_enter Try.func63, Try.ntmps63
    go_wp2_with fail
    refine wp_loop_rounds 2 ?_
    rw [rounds_succ]
    go_wp2_with fail
    refine (name1_any _ _ (by first | exact .inl rfl | exact .inr rfl)).mono ?_
    rintro e w1 ⟨rfl, rfl⟩
    go_wp2_with fail
    rw [rounds_succ]
    go_wp2_with fail
    go_ret
    exact ⟨rfl, rfl⟩
set_option maxHeartbeats 1000000 in
theorem name_any (w : World) (s : ByteArray) (h : s = sA ∨ s = sB) : Calls Try.prog 50 #[.string s] w fun e w' => e = .returned (.bool true) ∧ w' = w := by
  rcases h with rfl | rfl
  all_goals
    go_enter Try.func50, Try.ntmps50
    go_wp2_with fail
    refine (mall_any _ _ (by first | exact .inl rfl | exact .inr rfl)).mono ?_
    rintro e w1 ⟨rfl, rfl⟩
    go_wp2_with fail
    go_ret
    exact ⟨rfl, rfl⟩
set_option maxHeartbeats 1000000 in
theorem mwithin_any (w : World) (n : Int) (h : n = 5 ∨ n = 3) : Calls Try.prog 68 #[.int .i64 n] w fun e w' => e = .returned (.bool true) ∧ w' = w := by
  rcases h with rfl | rfl
  all_goals
    go_enter Try.func68, Try.ntmps68
    go_wp2_with fail
    go_ret
    exact ⟨rfl, rfl⟩
set_option maxHeartbeats 1000000 in
theorem cur1_any (w : World) (c : Int) (h : c = 85 ∨ c = 83 ∨ c = 68) : Calls Try.prog 75 #[.int .i32 c] w fun e w' => e = .returned (.bool false) ∧ w' = w := by
  rcases h with rfl | rfl | rfl
  all_goals
    go_enter Try.func75, Try.ntmps75
    go_wp2_with fail
    go_ret
    exact ⟨rfl, rfl⟩
set_option maxHeartbeats 2000000 in
theorem index_any (w : World) : Calls Try.prog 78 #[.string sU, .func (.func 75) #[] #[], .bool true] w fun e w' => e = .returned (.int .i64 (-1)) ∧ Below w.heap.size w w' := by
  have n0 : (Instr.next (.pointer (some ⟨w.heap.size, 0, none⟩)) true 0).run Try.prog (w.iter sU 0) = .ok (.tuple #[.bool true, .int .i64 0, .int .i32 85]) (w.iter sU 1) := run_next_ascii w sU 0 0 (by decide) (by decide)
  have n1 : (Instr.next (.pointer (some ⟨w.heap.size, 0, none⟩)) true 0).run Try.prog (w.iter sU 1) = .ok (.tuple #[.bool true, .int .i64 1, .int .i32 83]) (w.iter sU 2) := run_next_ascii w sU 1 0 (by decide) (by decide)
  have n2 : (Instr.next (.pointer (some ⟨w.heap.size, 0, none⟩)) true 0).run Try.prog (w.iter sU 2) = .ok (.tuple #[.bool true, .int .i64 2, .int .i32 68]) (w.iter sU 3) := run_next_ascii w sU 2 0 (by decide) (by decide)
  have n3 : (Instr.next (.pointer (some ⟨w.heap.size, 0, none⟩)) true 0).run Try.prog (w.iter sU 3) = .ok (.tuple #[.bool false]) (w.iter sU 3) := run_next_end w sU 3 0 (by decide)
  go_enter Try.func78, Try.ntmps78
  go_wp2_with fail
  refine wp_loop_rounds 4 ?_
  rw [rounds_succ]
  go_wp2_with fail
  refine (cur1_any _ _ (by first | exact .inl rfl | exact .inr (.inl rfl) | exact .inr (.inr rfl))).mono ?_
  rintro e w1 ⟨rfl, rfl⟩
  go_wp2_with fail
  rw [rounds_succ]
  go_wp2_with fail
  refine (cur1_any _ _ (by first | exact .inl rfl | exact .inr (.inl rfl) | exact .inr (.inr rfl))).mono ?_
  rintro e w1 ⟨rfl, rfl⟩
  go_wp2_with fail
  rw [rounds_succ]
  go_wp2_with fail
  refine (cur1_any _ _ (by first | exact .inl rfl | exact .inr (.inl rfl) | exact .inr (.inr rfl))).mono ?_
  rintro e w1 ⟨rfl, rfl⟩
  go_wp2_with fail
  rw [rounds_succ]
  go_wp2_with fail
  go_ret
  exact ⟨rfl, (Below.refl _ w).alloc (Nat.le_refl _) _⟩
set_option maxHeartbeats 1000000 in
theorem sindex_any (w : World) : Calls Try.prog 77 #[.string sU, .func (.func 75) #[] #[]] w fun e w' => e = .returned (.int .i64 (-1)) ∧ Below w.heap.size w w' := by
  go_enter Try.func77, Try.ntmps77
  go_wp2_with fail
  refine (index_any _).mono ?_
  rintro e w1 ⟨rfl, hb⟩
  have HB := Lib.hid hb
  clear hb
  go_wp2_with fail
  go_ret
  exact ⟨rfl, HB.out⟩
set_option maxHeartbeats 1000000 in
theorem scontains_any (w : World) : Calls Try.prog 74 #[.string sU, .func (.func 75) #[] #[]] w fun e w' => e = .returned (.bool false) ∧ Below w.heap.size w w' := by
  go_enter Try.func74, Try.ntmps74
  go_wp2_with fail
  refine (sindex_any _).mono ?_
  rintro e w1 ⟨rfl, hb⟩
  have HB := Lib.hid hb
  clear hb
  go_wp2_with fail
  go_ret
  exact ⟨rfl, HB.out⟩
set_option maxHeartbeats 1000000 in
theorem currency_any (w : World) : Calls Try.prog 67 #[.string sU] w fun e w' => e = .returned (.bool true) ∧ Below w.heap.size w w' := by
  go_enter Try.func67, Try.ntmps67
  go_wp2_with fail
  refine (scontains_any _).mono ?_
  rintro e w1 ⟨rfl, hb⟩
  have HB := Lib.hid hb
  clear hb
  go_wp2_with fail
  go_ret
  exact ⟨rfl, HB.out⟩
set_option maxHeartbeats 1000000 in
theorem mmay_any (w : World) (n : Int) (h : n = 5 ∨ n = 3) : Calls Try.prog 51 #[.agg #[.string sU, .int .i64 n]] w fun e w' => e = .returned (.bool true) ∧ Below w.heap.size w w' := by
  go_enter Try.func51, Try.ntmps51
  go_wp2_with fail
  refine (currency_any _).mono ?_
  rintro e w1 ⟨rfl, hb⟩
  have HB : Hid (Below w.heap.size w w1) := ((Below.refl _ w).alloc (Nat.le_refl _) (.cells #[.string sU, .int .i64 n] 89)).trans (hb.mono (by simp))
  have hx := (hb.block w.heap.size (by simp)).trans (heap_alloc_new w (.cells #[.string sU, .int .i64 n] 89))
  have b1 : w1.cell? ⟨w.heap.size, 1, none⟩ = some (.int .i64 n) := by rw [cell_of_row w1 w.heap.size _ _ _ _ hx]; rfl
  clear hb hx
  go_wp2_with fail
  refine (mwithin_any _ n h).mono ?_
  rintro e w2 ⟨rfl, rfl⟩
  go_wp2_with fail
  go_ret
  exact ⟨rfl, HB.out⟩

abbrev debtV (a b : ByteArray) (n : Int) : Value := .agg #[.string a, .string b, .string sU, .int .i64 n]
abbrev debtO (a b : ByteArray) (n : Int) : Obj := .cells #[.string a, .string b, .string sU, .int .i64 n] 55
theorem box4 {w : World} {b : Nat} {x0 x1 x2 x3 : Value} {t : TypeId} (h : w.heap[b]? = some (.cells #[x0, x1, x2, x3] t (0, 0))) :
    w.cell? ⟨b, 0, none⟩ = some x0 ∧ w.cell? ⟨b, 1, none⟩ = some x1 ∧ w.cell? ⟨b, 2, none⟩ = some x2 ∧ w.cell? ⟨b, 3, none⟩ = some x3 := by
  refine ⟨?_, ?_, ?_, ?_⟩ <;> (rw [cell_of_row w b _ _ _ _ h]; rfl)
/-- The example's debts. -/
def Deb (a b : ByteArray) (n : Int) : Prop := (a = sA ∧ b = sB ∧ n = 5) ∨ (a = sB ∧ b = sA ∧ n = 3)

set_option maxHeartbeats 2000000 in
theorem dmay_any (w : World) (a b : ByteArray) (n : Int) (h : Deb a b n) : Calls Try.prog 45 #[debtV a b n] w fun e w' => e = .returned (.bool true) ∧ Below w.heap.size w w' := by
  rcases h with ⟨rfl, rfl, rfl⟩ | ⟨rfl, rfl, rfl⟩
  all_goals
    go_enter Try.func45, Try.ntmps45
    go_wp2_with fail
    refine (name_any _ _ (by first | exact .inl rfl | exact .inr rfl)).mono ?_
    rintro e w1 ⟨rfl, rfl⟩
    go_wp2_with fail
    refine (name_any _ _ (by first | exact .inl rfl | exact .inr rfl)).mono ?_
    rintro e w1 ⟨rfl, rfl⟩
    go_wp2_with fail
    refine (mmay_any _ _ (by first | exact .inl rfl | exact .inr rfl)).mono ?_
    rintro e w1 ⟨rfl, hb⟩
    have HB : Hid (Below w.heap.size w w1) := ((Below.refl _ w).alloc (Nat.le_refl _) _).trans (hb.mono (by simp))
    clear hb
    go_wp2_with fail
    go_ret
    exact ⟨rfl, HB.out⟩
set_option maxHeartbeats 1000000 in
theorem all1_any (w : World) (a b : ByteArray) (n : Int) (h : Deb a b n) : Calls Try.prog 44 #[debtV a b n] w fun e w' => e = .returned (.bool false) ∧ Below w.heap.size w w' := by
  have HD := Lib.hid h
  clear h
  go_enter Try.func44, Try.ntmps44
  go_wp2_with fail
  refine (dmay_any _ a b n HD.out).mono ?_
  rintro e w1 ⟨rfl, hb⟩
  have HB : Hid (Below w.heap.size w w1) := ((Below.refl _ w).alloc (Nat.le_refl _) (debtO a b n)).trans (hb.mono (by simp))
  clear hb
  go_wp2_with fail
  go_ret
  exact ⟨rfl, HB.out⟩

/-- The example's slice of debts. -/
def DebtsAt (w : World) (b : Nat) : Prop := w.heap[b]? = some (.cells #[.string sA, .string sB, .string sU, .int .i64 5, .string sB, .string sA, .string sU, .int .i64 3] 55 (0, 0))
theorem DebtsAt.cells {w : World} {b : Nat} (h : DebtsAt w b) : w.cell? ⟨b, 0, none⟩ = some (.string sA) ∧ w.cell? ⟨b, 1, none⟩ = some (.string sB) ∧ w.cell? ⟨b, 2, none⟩ = some (.string sU) ∧ w.cell? ⟨b, 3, none⟩ = some (.int .i64 5) ∧
    w.cell? ⟨b, 4, none⟩ = some (.string sB) ∧ w.cell? ⟨b, 5, none⟩ = some (.string sA) ∧ w.cell? ⟨b, 6, none⟩ = some (.string sU) ∧ w.cell? ⟨b, 7, none⟩ = some (.int .i64 3) := by
  unfold DebtsAt at h
  refine ⟨?_, ?_, ?_, ?_, ?_, ?_, ?_, ?_⟩ <;> (rw [cell_of_row w b _ _ _ _ h]; rfl)
theorem DebtsAt.lt {w : World} {b : Nat} (h : DebtsAt w b) : b < w.heap.size := by
  rcases Nat.lt_or_ge b w.heap.size with hl | hl
  · exact hl
  · unfold DebtsAt at h; rw [Array.getElem?_eq_none hl] at h; cases h
theorem DebtsAt.below {w w' : World} {b : Nat} (h : DebtsAt w b) (hb : Below w.heap.size w w') : DebtsAt w' b := (hb.block b h.lt).trans h

set_option maxRecDepth 100000 in
set_option maxHeartbeats 2000000 in
theorem dindex_any (w : World) (b c : Nat) (h : DebtsAt w b) : Calls Try.prog 49 #[.slice (some ⟨b, 0, none⟩) 2 c, .func (.func 44) #[] #[]] w fun e w' => e = .returned (.int .i64 (-1)) ∧ Below w.heap.size w w' := by
  obtain ⟨c0, c1, c2, c3, _, _, _, _⟩ := h.cells
  have HD := Lib.hid h
  clear h
  go_enter Try.func49, Try.ntmps49
  go_wp2_with fail
  refine wp_loop_rounds 3 ?_
  rw [rounds_succ]
  go_wp2_with fail
  refine (all1_any _ sA sB 5 (.inl ⟨rfl, rfl, rfl⟩)).mono ?_
  rintro e w1 ⟨rfl, hb⟩
  have HB := Lib.hid hb
  obtain ⟨_, _, _, _, d4, d5, d6, d7⟩ := (HD.out.below hb).cells
  clear hb c0 c1 c2 c3
  go_wp2_with fail
  rw [rounds_succ]
  go_wp2_with fail
  refine (all1_any _ sB sA 3 (.inr ⟨rfl, rfl, rfl⟩)).mono ?_
  rintro e w2 ⟨rfl, hb⟩
  have HB2 : Hid (Below w.heap.size w w2) := HB.out.trans (hb.mono HB.out.size)
  clear hb d4 d5 d6 d7
  go_wp2_with fail
  rw [rounds_succ]
  go_wp2_with fail
  go_ret
  exact ⟨rfl, HB2.out⟩
set_option maxHeartbeats 1000000 in
theorem dcontains_any (w : World) (b c : Nat) (h : DebtsAt w b) : Calls Try.prog 43 #[.slice (some ⟨b, 0, none⟩) 2 c, .func (.func 44) #[] #[]] w fun e w' => e = .returned (.bool false) ∧ Below w.heap.size w w' := by
  have HD := Lib.hid h
  clear h
  go_enter Try.func43, Try.ntmps43
  go_wp2_with fail
  refine (dindex_any _ b c HD.out).mono ?_
  rintro e w1 ⟨rfl, hb⟩
  have HB := Lib.hid hb
  clear hb
  go_wp2_with fail
  go_ret
  exact ⟨rfl, HB.out⟩
set_option maxHeartbeats 1000000 in
theorem dall_any (w : World) (b c : Nat) (h : DebtsAt w b) : Calls Try.prog 36 #[.slice (some ⟨b, 0, none⟩) 2 c] w fun e w' => e = .returned (.bool true) ∧ Below w.heap.size w w' := by
  have HD := Lib.hid h
  clear h
  go_enter Try.func36, Try.ntmps36
  go_wp2_with fail
  refine (dcontains_any _ b c HD.out).mono ?_
  rintro e w1 ⟨rfl, hb⟩
  have HB := Lib.hid hb
  clear hb
  go_wp2_with fail
  go_ret
  exact ⟨rfl, HB.out⟩
end Go.Proofs.Ytpflojfdlmdmfaa
