/- The walks of a sort of one debt, of netting.told, Pairs, and of nets, the example: it is true. -/
import Derived.Test.YtpflojfdlmdmfaaNetD
import Derived.Laws.AppendOwn
import Derived.Laws.OwnMore
import Derived.Deep.AppendLies
namespace Go.Proofs.Ytpflojfdlmdmfaa
open Go.RowKit Go.MapKept Go.ChangeMaps

set_option maxRecDepth 100000 in
set_option maxHeartbeats 4000000 in
theorem insert_any (w : World) (A : Option Addr) (c : Nat) : Calls Try.prog 52 #[.slice A 1 c, .int .i64 0, .int .i64 1, .func (.func 39) #[] #[]] w fun e w' => e = .returned (.tuple #[]) ∧ w' = w := by
  go_enter Try.func52, Try.ntmps52
  go_wp2_with fail
  refine wp_loop_rounds 1 ?_
  refine rounds_go ?_
  go_wp2_with fail
  go_end0
  exact ⟨rfl, rfl⟩
set_option maxRecDepth 100000 in
set_option maxHeartbeats 4000000 in
theorem pdq_any (w : World) (A : Option Addr) (c : Nat) (n : Int) : Calls Try.prog 46 #[.slice A 1 c, .int .i64 0, .int .i64 1, .int .i64 n, .func (.func 39) #[] #[]] w fun e w' => e = .returned (.tuple #[]) ∧ w' = w := by
  go_enter Try.func46, Try.ntmps46
  go_wp2_with fail
  refine wp_loop_rounds 1 ?_
  refine rounds_go ?_
  go_wp2_with fail
  refine (insert_any _ A c).mono ?_
  rintro e w1 ⟨rfl, rfl⟩
  go_wp2_with fail
  exact bodyPost_ret (v := .tuple #[]) (by simp [results, Try.results46, go_sem]) rfl ⟨rfl, rfl⟩
set_option maxRecDepth 100000 in
set_option maxHeartbeats 4000000 in
theorem len64_any (w : World) : Calls Try.prog 61 #[.int .u64 1] w fun e w' => (∃ n, e = .returned (.int .i64 n)) ∧ w' = w := by
  go_enter Try.func61, Try.ntmps61
  go_wp2_with fail
  go_ret
  exact ⟨⟨_, rfl⟩, rfl⟩
set_option maxHeartbeats 1000000 in
theorem len_any' (w : World) : Calls Try.prog 47 #[.int .u64 1] w fun e w' => (∃ n, e = .returned (.int .i64 n)) ∧ w' = w := by
  go_enter Try.func47, Try.ntmps47
  go_wp2_with fail
  refine (len64_any _).mono ?_
  rintro e w1 ⟨⟨n, rfl⟩, rfl⟩
  go_wp2_with fail
  go_ret
  exact ⟨⟨_, rfl⟩, rfl⟩
set_option maxHeartbeats 1000000 in
theorem sort_any (w : World) (A : Option Addr) (c : Nat) : Calls Try.prog 38 #[.slice A 1 c, .func (.func 39) #[] #[]] w fun e w' => e = .returned (.tuple #[]) ∧ w' = w := by
  go_enter Try.func38, Try.ntmps38
  go_wp2_with fail
  refine (len_any' _).mono ?_
  rintro e w1 ⟨⟨n, rfl⟩, rfl⟩
  go_wp2_with fail
  refine (pdq_any _ A c n).mono ?_
  rintro e w1 ⟨rfl, rfl⟩
  go_wp2_with fail
  go_end0
  exact ⟨rfl, rfl⟩

theorem info55 : (Try.prog.info? 55).map (fun i => (i.zero, i.size, i.bytes)) = some (some (.agg #[.string ByteArray.empty, .string ByteArray.empty, .string ByteArray.empty, .int .i64 0]), 4, 56) := by kernel_rfl

/-- What told leaves: one debt. -/
def ToldPost (w : World) (e : Ending) (w' : World) : Prop := ∃ q cap, e = .returned (.slice (some ⟨q, 0, none⟩) 1 cap) ∧ w'.cell? ⟨q, 0, none⟩ = some (.string sA) ∧ w'.cell? ⟨q, 1, none⟩ = some (.string sB) ∧ w'.cell? ⟨q, 2, none⟩ = some (.string sU) ∧ w'.cell? ⟨q, 3, none⟩ = some (.int .i64 2) ∧ Below w.heap.size w w'

set_option maxRecDepth 100000 in
set_option maxHeartbeats 4000000 in
theorem told_any (w : World) (g : Nat) (h : w.heap[g]? = some (.map #[e2] 1)) : Calls Try.prog 33 #[.map (some g)] w (ToldPost w) := by
  obtain ⟨i0, hi0, hz0, hz1, hz2⟩ := info_parts info55
  obtain ⟨rg, hi⟩ := I1.begin h
  obtain ⟨v1, n1, hi1, hb1⟩ := hi.first
  have t1 := hi1.ent
  have HI1 := Lib.hid hi1
  have HB1 : Hid (Below w.heap.size w v1) := below_butOne ((Below.refl _ w).alloc (Nat.le_refl _) _) hb1 (Nat.le_refl _)
  have hsz1 : v1.heap.size = w.heap.size + 1 := by rw [hb1.size]; simp
  have HS1 := Lib.hid hsz1
  clear h hi hi1 hb1 hsz1
  go_enter Try.func33, Try.ntmps33
  go_wp2_with fail
  refine wp_loop_rounds 2 ?_
  refine rounds_go ?_
  go_wp2_with (at_builtin; refine Hid.out ?_)
  refine Lib.hid ?_
  refine wpList_append_own _ rfl (.tmp 13) (.tmp 22) _ rfl w.heap.size 55 i0 _ 4 56 Try.underlying51 hi0 hz0 hz1 hz2 rfl (by omega) (.slice none 0 0) 0 [] rfl (World.ownsRow_nil _ _ _ _)
    ⟨v1.heap.size + 1, 0, none⟩ 1 1 [.string sA, .string sB, .string sU, .int .i64 2] rfl rfl (World.news_of_block (cs := #[.string sA, .string sB, .string sU, .int .i64 2]) (t := 55) (fr := (0, 0)) (at_top' (by simp))) (by simp [Value.oneCell']) (by simp [maxLen]) (by omega) (by have := HS1.out; simp; omega) ?_
  intro v2 w2 hown hg2 hn2
  obtain ⟨q, cap, rfl, hq⟩ : ∃ q cap, v2 = .slice (some ⟨q, 0, none⟩) 1 cap ∧ w.heap.size ≤ q := by
    rcases hown.2 with ⟨hv, _⟩ | ⟨q, cap, cur, hv, hq, _⟩
    · exact absurd (hn2.1 hv).2 (by omega)
    · exact ⟨q, cap, hv, hq⟩
  have HO := Lib.hid hown
  have HI2 : Hid (I1 w2 g w.heap.size #[0]) := HI1.out.keep ((hg2.block g (by have := lt_of HI1.out.hg; simp; omega) (by simp [Value.ownBlock])).trans ((up1 (up1 HI1.out.hg)).trans HI1.out.hg.symm)) ((hg2.block w.heap.size (by have := lt_of HI1.out.hr; simp; omega) (by simp [Value.ownBlock])).trans ((up1 (up1 HI1.out.hr)).trans HI1.out.hr.symm))
  have n2 := HI2.out.last
  have HB2 : Hid (Below w.heap.size w w2) := (((HB1.out.alloc HB1.out.size (.cells #[.string sU, .string sA, .string sB] 73)).alloc (by have := HB1.out.size; simp; omega) (.cells #[.string sA, .string sB, .string sU, .int .i64 2] 55))).grown hg2 (by have := HB1.out.size; simp; omega) (fun k hk => by simp [Value.ownBlock] at hk)
  clear hown hg2 hn2
  go_wp2_with fail
  refine rounds_go ?_
  go_wp2_with fail
  refine (sort_any _ _ cap).mono ?_
  rintro e w3 ⟨rfl, rfl⟩
  go_wp2_with fail
  go_ret
  have hc : ∀ j, j < 4 → w3.cell? ⟨q, j, none⟩ = #[Value.string sA, .string sB, .string sU, .int .i64 2].toList[j]? := fun j hj => HO.out.cellAt j (by omega)
  exact ⟨q, cap, rfl, hc 0 (by omega), hc 1 (by omega), hc 2 (by omega), hc 3 (by omega), HB2.out⟩

/-- What Pairs leaves. -/
def PairsPost (w : World) (e : Ending) (w' : World) : Prop := ∃ q cap, e = .returned (.tuple #[.slice (some ⟨q, 0, none⟩) 1 cap, .int .i64 0]) ∧ w'.cell? ⟨q, 0, none⟩ = some (.string sA) ∧ w'.cell? ⟨q, 1, none⟩ = some (.string sB) ∧ w'.cell? ⟨q, 2, none⟩ = some (.string sU) ∧ w'.cell? ⟨q, 3, none⟩ = some (.int .i64 2) ∧ Below w.heap.size w w'

set_option maxHeartbeats 1000000 in
theorem netpairs_any (w : World) (b c : Nat) (h : DebtsAt w b) : Calls Try.prog 25 #[.slice (some ⟨b, 0, none⟩) 2 c] w (PairsPost w) := by
  have HD := Lib.hid h
  clear h
  go_enter Try.func25, Try.ntmps25
  go_wp2_with fail
  refine (pairs_any _ b c HD.out).mono ?_
  rintro e w1 ⟨g, rfl, hg, hb⟩
  have HB := Lib.hid hb
  have HG := Lib.hid hg
  clear hb hg
  go_wp2_with fail
  refine (told_any _ g HG.out).mono ?_
  rintro e w2 ⟨q, cap, rfl, c0, c1, c2, c3, hb⟩
  have HB2 : Hid (Below w.heap.size w w2) := HB.out.trans (hb.mono HB.out.size)
  clear hb
  go_wp2_with fail
  go_ret2
  exact ⟨q, cap, rfl, c0, c1, c2, c3, HB2.out⟩

set_option maxHeartbeats 2000000 in
theorem nets_any (w : World) : Calls Try.prog 9 #[] w fun e w' => e = .returned (.bool true) ∧ Below w.heap.size w w' := by
  go_enter Try.func9, Try.ntmps9
  go_wp2_with fail
  refine (netpairs_any _ w.heap.size 2 (by unfold DebtsAt; exact at_top' rfl)).mono ?_
  rintro e w1 ⟨q, cap, rfl, c0, c1, c2, c3, hb⟩
  have HB : Hid (Below w.heap.size w w1) := ((Below.refl _ w).alloc (Nat.le_refl _) _).trans (hb.mono (by simp))
  clear hb
  go_wp2_with fail
  go_ret
  exact ⟨rfl, HB.out⟩
end Go.Proofs.Ytpflojfdlmdmfaa
