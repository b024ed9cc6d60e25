/- The walk of the document's Write. -/
import Derived.Test.YtgifckledbopmaaRef
namespace Go.Proofs.Ytgifckledbopmaa
open Go.RowKit

theorem at_top {w : World} {o : Obj} {g : Nat} (h : g = w.heap.size) : (w.alloc o).heap[g]? = some o := by
  subst h; exact heap_alloc_new w o
theorem RowAt.below {w w' : World} {e : TypeId} {v : Value} {L : List Value} (h : RowAt w e v L) (hb : Below w.heap.size w w') : RowAt w' e v L :=
  h.keep fun k hk => hb.block k (h.lt k hk)

theorem own_le {B r n c k : Nat} (h : B ≤ r) (hk : (Value.slice (some ⟨r, 0, none⟩) n c).ownBlock = some k) : B ≤ k := by
  have : r = k := by simpa [Value.ownBlock] using hk
  omega
theorem blk4 {w0 w1 : World} {B b : Nat} {x0 x1 x2 x3 : Value} {t : TypeId} (hb : Below B w0 w1) (hlt : b < B) (h : w0.heap[b]? = some (.cells #[x0, x1, x2, x3] t (0, 0))) :
    w1.cell? ⟨b, 0, none⟩ = some x0 ∧ w1.cell? ⟨b, 1, none⟩ = some x1 ∧ w1.cell? ⟨b, 2, none⟩ = some x2 ∧ w1.cell? ⟨b, 3, none⟩ = some x3 ∧ ∀ j, w1.frozen? ⟨b, j, none⟩ = false := by
  have h1 := (hb.block b hlt).trans h
  refine ⟨?_, ?_, ?_, ?_, fun j => by simp [World.frozen?, h1]⟩ <;> (rw [cell_of_row w1 b _ _ _ _ h1]; rfl)

set_option maxRecDepth 100000 in
set_option maxHeartbeats 2000000 in
theorem rwrite_ok (w : World) (a : Option Addr) (c : Nat) (L : List ByteArray) (l : Nat) (f f' : Int) (t : ByteArray) (hcall : ∀ w, Calls Try.prog 34 #[.agg #[.slice a L.length c, .int .i64 l, .int .i64 f, .bool false]] w fun e w' => e = .returned (.tuple #[.agg #[.slice a L.length c, .int .i64 l, .int .i64 f', .bool false], .bool true]) ∧ w' = (w.alloc (.cells #[.slice a L.length c, .int .i64 l, .int .i64 f', .bool false] 42)).alloc (.cells #[.slice a L.length c, .int .i64 l, .int .i64 f', .bool false] 42)) (hlen : L.length < 4096) (ht : t.size ≤ 4096) (h : RowAt w 9 (.slice a L.length c) (strsV L)) :
    Calls Try.prog 28 #[.agg #[.slice a L.length c, .int .i64 l, .int .i64 f, .bool false], .string t] w fun e w' => ∃ r' cap', e = .returned (.tuple #[.agg #[.slice (some ⟨r', 0, none⟩) (L.length + 1) cap', .int .i64 l, .int .i64 f', .bool false], .int .i64 0]) ∧ Below w.heap.size w w' ∧ RowAt w' 9 (.slice (some ⟨r', 0, none⟩) (L.length + 1) cap') (strsV (L ++ [t])) ∧ w.heap.size ≤ r' := by
  obtain ⟨i0, hi0, hz0, hz1, hz2⟩ := info_parts info9
  have HR := Lib.hid h
  have hsl : (strsV L).length = L.length := by simp [strsV]
  have HC := Lib.hid hcall
  clear h hcall
  go_enter Try.func28, Try.ntmps28
  go_wp2_with fail
  refine (HC.out _).mono ?_
  rintro e w1 ⟨rfl, rfl⟩
  go_wp2_with (first
    | (at_builtin; refine wpList_append_copy _ rfl _ _ 22 rfl 9 i0 _ 16 Try.underlying22 hi0 hz0 hz1 hz2 rfl (w.heap.size + 1 + 1 + 1 + 1) rfl (at_top (by simp)) (.slice a L.length c) rfl (strsV L) (HR.out.below (by (repeat (first | exact Below.refl _ _ | assumption | refine Below.drew ?_ | refine below_drewN ?_ _ | refine Below.alloc ?_ (by (try simp); try omega) _ | refine Below.setCell ?_ (by (try simp); try omega) _)))) (by rw [hsl]; simp [maxLen]; omega) (by rw [hsl]; omega) ?_; intro ra cap1 w2 hrow2 hgrow2 hat2; rw [hsl] at hrow2 hat2; rw [hsl])
    | (at_builtin; refine Hid.out ?_)
    | fail)
  refine Lib.hid ?_
  refine wpList_append_row _ rfl _ _ 22 rfl 9 i0 _ 16 Try.underlying22 hi0 hz0 hz1 hz2 rfl (.slice ra L.length cap1) (strsV L) rfl (hrow2.below (by (repeat (first | exact Below.refl _ _ | assumption | refine Below.drew ?_ | refine below_drewN ?_ _ | refine Below.alloc ?_ (by (try simp); try omega) _ | refine Below.setCell ?_ (by (try simp); try omega) _)))) ⟨w2.heap.size, 0, none⟩ 1 (.string t) rfl (by simp [Addr.add]) rfl (by rw [hsl]; simp [maxLen]; omega) (by rw [hsl]; omega) ?_
  intro r' cap' w3 hrow3 hgrow3 hat3
  rw [hsl] at hrow3
  rw [hsl]
  have hb3 := (((show Below (w.heap.size + 1 + 1 + 1 + 1) _ _ from by (repeat (first | exact Below.refl _ _ | assumption | refine Below.drew ?_ | refine below_drewN ?_ _ | refine Below.alloc ?_ (by (try simp); try omega) _ | refine Below.setCell ?_ (by (try simp); try omega) _))).grown hgrow2 (by simp) (by intro k hk; injection hk with hk; omega)).alloc (by have := hgrow2.size; simp at this; omega) (.cells #[.string t] 9)).grown hgrow3 (by have := hgrow2.size; simp at this; simp; omega) (by
    intro k hk
    rcases hat2 with h | h <;> (rw [h] at hk; injection hk with hk)
    · omega
    · simp at hk; omega)
  have hr' : w.heap.size + 1 + 1 + 1 + 1 ≤ r' := by
    have := hgrow2.size
    simp at this
    rcases hat3 with h | h
    · rcases hat2 with h2 | h2 <;> (rw [h2] at h; injection h with h; (try simp at h); omega)
    · simp at h; omega
  obtain ⟨a0, a1, a2, a3, a4⟩ := blk4 hb3 (b := w.heap.size) (by omega) (by (repeat (first | (refine at_top ?_; simp; done) | refine (Below.heap_alloc _ _ _ (by (try simp); try omega)).trans ?_)))
  obtain ⟨b0, b1, b2, b3, b4⟩ := blk4 hb3 (b := w.heap.size + 1) (by omega) (by (repeat (first | (refine at_top ?_; simp; done) | refine (Below.heap_alloc _ _ _ (by (try simp); try omega)).trans ?_)))
  have H3 := Lib.hid hb3
  have HR3 := Lib.hid hrow3
  have HR' := Lib.hid hr'
  clear hb3 hrow3 hr' hgrow3 hat3 hgrow2 hat2 hrow2
  go_wp2_with fail
  refine bodyPost_ret (v := .tuple #[.agg #[.slice (some ⟨r', 0, none⟩) (L.length + 1) cap', .int .i64 l, .int .i64 f', .bool false], .int .i64 0]) (by simp [results, Try.results28, go_sem, b0, b1, b2, b3]) rfl ?_
  have h3 := H3.out
  have hr' := HR'.out
  refine ⟨r', cap', rfl, ?_, ?_, by omega⟩
  · have : Below w.heap.size w w3 := Below.trans (b := _) (by (repeat (first | exact Below.refl _ _ | assumption | refine Below.drew ?_ | refine below_drewN ?_ _ | refine Below.alloc ?_ (by (try simp); try omega) _ | refine Below.setCell ?_ (by (try simp); try omega) _))) (h3.mono (by omega))
    exact ((((this.setCell (by simp) _).setCell (by simp) _).setCell (by simp) _).setCell (by simp) _).setCell (by simp) _
  · have hL : strsV (L ++ [t]) = strsV L ++ [.string t] := by simp [strsV]
    rw [hL]
    refine HR3.out.keep fun k hk => ?_
    have : r' = k := by simpa [Value.ownBlock] using hk
    rw [Below.heap_setCell _ _ _ _ (by simp; omega), Below.heap_setCell _ _ _ _ (by simp; omega), Below.heap_setCell _ _ _ _ (by simp; omega), Below.heap_setCell _ _ _ _ (by simp; omega), Below.heap_setCell _ _ _ _ (by simp; omega)]

set_option maxRecDepth 100000 in
set_option maxHeartbeats 2000000 in
theorem rwrite_any (w : World) (lv : Value) (S : Sto) (t : ByteArray) (ht : t.size ≤ maxLen) (h : RefAt w lv S) :
    Calls Try.prog 28 #[refV lv S, .string t] w fun e w' => ∃ lv', e = .returned (.tuple #[refV lv' (S.write t).2, .int .i64 (S.write t).1]) ∧ RAfter w lv (S.write t).2 lv' w' := by
  have HR := Lib.hid h
  obtain ⟨a, c, hv, hl1, hl2, _⟩ := h.form
  have hle := h.le
  have hlen := h.len
  obtain ⟨f1, f2⟩ := h.fuse
  unfold maxLen at hl2 ht
  clear h
  obtain ⟨L, l, f, d⟩ := S
  subst hv
  simp only at hl1 hl2 hle f1 f2 hlen
  cases d with
  | true =>
    have e1 : (Sto.mk L l f true).write t = (14, Sto.mk L l f true) := by unfold Sto.write; rw [if_pos rfl]
    rw [e1]
    clear e1
    go_enter Try.func28, Try.ntmps28
    go_wp2_with fail
    exact bodyPost_ret (v := .tuple #[.agg #[.slice a L.length c, .int .i64 l, .int .i64 f, .bool true], .int .i64 14]) (by simp [results, Try.results28, go_sem]) rfl ⟨_, rfl, .same HR.out rfl hle ⟨f1, f2⟩ (by (repeat (first | exact Below.refl _ _ | assumption | refine Below.drew ?_ | refine below_drewN ?_ _ | refine Below.alloc ?_ (by (try simp); try omega) _ | refine Below.setCell ?_ (by (try simp); try omega) _)))⟩
  | false =>
    by_cases hbig : 4096 < t.size
    · have e1 : (Sto.mk L l f false).write t = (1, Sto.mk L l f false) := by
        unfold Sto.write; rw [if_neg (by simp), if_pos hbig]
      rw [e1]
      clear e1
      go_enter Try.func28, Try.ntmps28
      go_wp2_with fail
      exact bodyPost_ret (v := .tuple #[.agg #[.slice a L.length c, .int .i64 l, .int .i64 f, .bool false], .int .i64 1]) (by simp [results, Try.results28, go_sem]) rfl ⟨_, rfl, .same HR.out rfl hle ⟨f1, f2⟩ (by (repeat (first | exact Below.refl _ _ | assumption | refine Below.drew ?_ | refine below_drewN ?_ _ | refine Below.alloc ?_ (by (try simp); try omega) _ | refine Below.setCell ?_ (by (try simp); try omega) _)))⟩
    · by_cases hfull : L.length = 4096
      · have e1 : (Sto.mk L l f false).write t = (7, Sto.mk L l f false) := by
          unfold Sto.write; rw [if_neg (by simp), if_neg hbig, if_pos hfull]
        rw [e1]
        clear e1
        have h7 : 4096 ≤ (L.length : Int) := by omega
        clear hfull
        go_enter Try.func28, Try.ntmps28
        go_wp2_with fail
        exact bodyPost_ret (v := .tuple #[.agg #[.slice a L.length c, .int .i64 l, .int .i64 f, .bool false], .int .i64 7]) (by simp [results, Try.results28, go_sem]) rfl ⟨_, rfl, .same HR.out rfl hle ⟨f1, f2⟩ (by (repeat (first | exact Below.refl _ _ | assumption | refine Below.drew ?_ | refine below_drewN ?_ _ | refine Below.alloc ?_ (by (try simp); try omega) _ | refine Below.setCell ?_ (by (try simp); try omega) _)))⟩
      · have hlt : L.length < 4096 := by omega
        have hsz : t.size ≤ 4096 := by omega
        rcases Int.lt_trichotomy f 0 with hf | hf | hf
        · have e1 : (Sto.mk L l f false).write t = (0, Sto.mk (L ++ [t]) l f false) := by
            unfold Sto.write Sto.burn; simp only [Bool.false_eq_true, if_false, if_neg hbig, if_neg hfull, if_neg (show ¬ f = 0 by omega), if_neg (show ¬ f > 0 by omega)]
          rw [e1]
          refine (rwrite_ok w a c L l f f t (fun w => rcall_neg w a _ c l f hf) hlt hsz HR.out.row).mono ?_
          rintro e w' ⟨r', cap', rfl, h1, h2, h3⟩
          exact ⟨_, rfl, ⟨by simpa using h2, by simp; omega, by simp; omega, f1, f2⟩, h1, fun k hk => .inr (own_le h3 hk)⟩
        · subst hf
          have e1 : (Sto.mk L l 0 false).write t = (14, Sto.mk L l 0 true) := by
            unfold Sto.write; simp only [Bool.false_eq_true, if_false, if_true, if_neg hbig, if_neg hfull]
          rw [e1]
          clear e1
          go_enter Try.func28, Try.ntmps28
          go_wp2_with fail
          refine (rcall_zero _ a _ c l).mono ?_
          rintro e w1 ⟨rfl, rfl⟩
          go_wp2_with fail
          exact bodyPost_ret (v := .tuple #[.agg #[.slice a L.length c, .int .i64 l, .int .i64 0, .bool true], .int .i64 14]) (by simp [results, Try.results28, go_sem]) rfl ⟨_, rfl, .same HR.out rfl hle ⟨f1, f2⟩ (by (repeat (first | exact Below.refl _ _ | assumption | refine Below.drew ?_ | refine below_drewN ?_ _ | refine Below.alloc ?_ (by (try simp); try omega) _ | refine Below.setCell ?_ (by (try simp); try omega) _)))⟩
        · have e1 : (Sto.mk L l f false).write t = (0, Sto.mk (L ++ [t]) l (f - 1) false) := by
            unfold Sto.write Sto.burn; simp only [Bool.false_eq_true, if_false, if_neg hbig, if_neg hfull, if_neg (show ¬ f = 0 by omega), if_pos (show f > 0 by omega)]
          rw [e1]
          refine (rwrite_ok w a c L l f (f - 1) t (fun w => rcall_pos w a _ c l f hf f2) hlt hsz HR.out.row).mono ?_
          rintro e w' ⟨r', cap', rfl, h1, h2, h3⟩
          exact ⟨_, rfl, ⟨by simpa using h2, by simp; omega, by simp; omega, by simp only; omega, by simp only; omega⟩, h1, fun k hk => .inr (own_le h3 hk)⟩
end Go.Proofs.Ytgifckledbopmaa
