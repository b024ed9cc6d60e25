/- The walks of the document's store: a value of four cells and the array of its writes; each call answers as the state says, old memory is as it was. -/
import Derived.Test.YtgifckledbopmaaOne
namespace Go.Proofs.Ytgifckledbopmaa
open Go.RowKit


abbrev refV (lv : Value) (S : Sto) : Value := .agg #[lv, .int .i64 S.last, .int .i64 S.fuse, .bool S.down]

/-- The document's store stands so. -/
structure RefAt (w : World) (lv : Value) (S : Sto) : Prop where
  row : RowAt w 9 lv (strsV S.L)
  len : S.L.length ≤ 4096
  le : S.last ≤ S.L.length
  fuse : -1 ≤ S.fuse ∧ S.fuse ≤ 9223372036854775807

theorem RefAt.form {w : World} {v : Value} {S : Sto} (h : RefAt w v S) : ∃ a cap, v = .slice a S.L.length cap ∧ S.L.length ≤ cap ∧ cap ≤ maxLen ∧ (0 < S.L.length → ∃ r, a = some ⟨r, 0, none⟩) := by
  have := h.row.form
  simpa [strsV] using this
theorem RefAt.below {w w' : World} {v : Value} {S : Sto} (h : RefAt w v S) (hb : Below w.heap.size w w') : RefAt w' v S :=
  ⟨h.row.keep fun k hk => hb.block k (h.row.lt k hk), h.len, h.le, h.fuse⟩

section
variable {P : Program} (w : World)
/-- append of a whole slice to an empty one of the call's own. -/
theorem run_append_copy (t ty e : TypeId) (i : TypeInfo) (z : Value) (bytes : Nat) (ht : P.underlying t = some (.slice e)) (hi : P.info? e = some i) (hz : i.zero = some z)
    (hsize : i.size = 1) (hby : i.bytes = bytes) (hzs : z.cells.size = 1)
    (g : Nat) (hg : w.heap[g]? = some (.cells #[] e (0, 0))) (lv : Value) (L : List Value) (hrow : RowAt w e lv L) 
    (h63 : L.length ≤ maxLen) (hbytes : L.length * bytes ≤ 140737488355328) :
    ∃ v' w', (Builtin.append_ #[t, t] ty #[.slice (some ⟨g, 0, none⟩) 0 0, lv]).run P w = .ok v' w' ∧ RowAt w' e v' L ∧ w.grownBy w' (some g) ∧ (v'.ownBlock = some g ∨ v'.ownBlock = some w.heap.size) := by
  subst hby
  have hsmall : L.length ≤ 9223372036854775807 := by simp only [maxLen] at h63; omega
  rcases hrow with ⟨rfl, rfl⟩ | ⟨r, cap, cur, rfl, hr, hnc, hcs, hcm, htake⟩
  · refine ⟨.slice (some ⟨g, 0, none⟩) 0 0, w, ?_, .inr ⟨g, 0, #[], rfl, hg, Nat.le_refl _, by simp, by simp [maxLen], rfl⟩, ⟨rfl, rfl, rfl, Nat.le_refl _, fun _ _ _ => rfl⟩, .inl rfl⟩
    simp [Builtin.append_, run_underlying ht, sizeOf, typeInfo, hi, Builtin.lenOf, Builtin.firstCells, storeCells]
  · have holds : ∀ j u, L[j]? = some u → w.cell? ((⟨r, 0, none⟩ : Addr).add j) = some u := by
      intro j u hu
      rw [Addr.add_lit, Nat.zero_add, cell_of_row w r j cur e (0, 0) hr]
      have hj : j < L.length := (List.getElem?_eq_some_iff.1 hu).1
      rw [← htake, List.getElem?_take, if_pos hj, Array.getElem?_toList] at hu
      exact hu
    by_cases h0 : L.length = 0
    · have hL : L = [] := List.length_eq_zero_iff.1 h0
      subst hL
      have hrun := run_append_room (P := P) w t ty e i ht hi g 0 0 #[] hg ⟨r, 0, none⟩ 0 cap [] (by simp) (by intro j u hu; simp at hu) (by intro u hu; simp at hu) (by omega) (by simp)
      refine ⟨_, _, hrun, .inr ⟨g, 0, _, rfl, setRow_heap w g #[] _ e _ hg, Nat.le_refl _, by simp, by simp [maxLen], by simp⟩, ⟨rfl, rfl, rfl, by simp, fun k _ hk => setRow_other w g k _ (fun e => hk (by rw [e]))⟩, .inl rfl⟩
    · have hge := grownCap_ge w (0 + L.length) 0 e
      have hcm2 : grownCap w (0 + L.length) 0 e ≤ maxLen := grownCap_le_maxLen w (0 + L.length) 0 e (by omega)
      have hrun := run_append_grow (P := P) w t ty e i z ht hi hz ⟨g, 0, none⟩ 0 0 [] (by simp) (by intro j u hu; simp at hu) ⟨r, 0, none⟩ L.length cap L (by simp [hsize]) holds (by omega) (by omega) (growslice_fits (by omega) (by rw [Nat.zero_add]; exact hbytes))
      rw [Nat.zero_add] at hrun hge hcm2
      refine ⟨_, _, hrun, .inr ⟨w.heap.size, _, _, rfl, heap_alloc_new w.drew _, hge, ?_, hcm2, ?_⟩, ⟨rfl, rfl, rfl, by simp, fun k hk _ => heap_alloc_old w.drew _ hk⟩, .inr rfl⟩
      · simp only [Array.size_append, List.size_toArray, size_zeroCells, hzs, List.length_nil]
        omega
      · simp only [Array.toList_append, List.nil_append]
        exact List.take_left

theorem wpList_append_copy {ops : Array Oper} {rest : List Oper} {o : Oper} {a : Act} {Q : Exit → Act → World → Prop} (hgd : o.guard = none) (s x : Operand) (t : TypeId)
    (ho : o.op = .call { callee := .builtin .append, args := #[s, x], argTypes := #[t, t] })
    (e : TypeId) (i : TypeInfo) (z : Value) (bytes : Nat) (ht : P.underlying t = some (.slice e)) (hi : P.info? e = some i) (hz : i.zero = some z)
    (hsize : i.size = 1) (hby : i.bytes = bytes) (hzs : z.cells.size = 1)
    (g : Nat) (hs : a.eval s = .slice (some ⟨g, 0, none⟩) 0 0) (hg : w.heap[g]? = some (.cells #[] e (0, 0))) (lv : Value) (hx : a.eval x = lv) (L : List Value) (hrow : RowAt w e lv L)
    (h63 : L.length ≤ maxLen) (hbytes : L.length * bytes ≤ 140737488355328)
    (h : ∀ ra cap' w', RowAt w' e (.slice ra L.length cap') L → w.grownBy w' (some g) → ((Value.slice ra L.length cap').ownBlock = some g ∨ (Value.slice ra L.length cap').ownBlock = some w.heap.size) → wpList P ops Q rest (a.put o.dst (.slice ra L.length cap')) w') : wpList P ops Q (o :: rest) a w := by
  refine wpList_plain hgd fun K hK => ?_
  obtain ⟨v', w', hr, h2, h3, h4⟩ := run_append_copy (P := P) w t o.type e i z bytes ht hi hz hsize hby hzs g hg lv L hrow h63 hbytes
  unfold Oper.wp execOp
  simp only [ho, resolve, invoke, builtin, Sem.run_bind, Sem.run_pure, Result.andThen_ok, List.map_toArray, List.map_cons, List.map_nil, hs, hx, hr]
  obtain ⟨a', cap', rfl, _, _, _⟩ := h2.form
  exact hK _ _ (h a' cap' w' h2 h3 h4)
end

set_option maxHeartbeats 1000000 in
theorem rcall_zero (w : World) (a : Option Addr) (n c : Nat) (l : Int) :
    Calls Try.prog 34 #[.agg #[.slice a n c, .int .i64 l, .int .i64 0, .bool false]] w fun e w' => e = .returned (.tuple #[.agg #[.slice a n c, .int .i64 l, .int .i64 0, .bool true], .bool false]) ∧ w' = (w.alloc (.cells #[.slice a n c, .int .i64 l, .int .i64 0, .bool true] 42)).alloc (.cells #[.slice a n c, .int .i64 l, .int .i64 0, .bool true] 42) := by
  go_enter Try.func34, Try.ntmps34
  go_wp2
  exact bodyPost_ret (v := .tuple #[.agg #[.slice a n c, .int .i64 l, .int .i64 0, .bool true], .bool false]) (by simp [results, Try.results34, go_sem]) rfl ⟨rfl, rfl⟩
set_option maxHeartbeats 1000000 in
theorem rcall_pos (w : World) (a : Option Addr) (n c : Nat) (l f : Int) (h1 : 0 < f) (h2 : f ≤ 9223372036854775807) :
    Calls Try.prog 34 #[.agg #[.slice a n c, .int .i64 l, .int .i64 f, .bool false]] w fun e w' => e = .returned (.tuple #[.agg #[.slice a n c, .int .i64 l, .int .i64 (f - 1), .bool false], .bool true]) ∧ w' = (w.alloc (.cells #[.slice a n c, .int .i64 l, .int .i64 (f - 1), .bool false] 42)).alloc (.cells #[.slice a n c, .int .i64 l, .int .i64 (f - 1), .bool false] 42) := by
  have hzb : (f == 0) = false := by rw [beq_eq_false_iff_ne]; omega
  have hw : IntKind.i64.wrap (f - 1) = f - 1 := IntWalk.i64_in _ (by omega)
  go_enter Try.func34, Try.ntmps34
  go_wp2
  exact bodyPost_ret (v := .tuple #[.agg #[.slice a n c, .int .i64 l, .int .i64 (f - 1), .bool false], .bool true]) (by simp [results, Try.results34, go_sem]) rfl ⟨rfl, rfl⟩
set_option maxHeartbeats 1000000 in
theorem rcall_neg (w : World) (a : Option Addr) (n c : Nat) (l f : Int) (h1 : f < 0) :
    Calls Try.prog 34 #[.agg #[.slice a n c, .int .i64 l, .int .i64 f, .bool false]] w fun e w' => e = .returned (.tuple #[.agg #[.slice a n c, .int .i64 l, .int .i64 f, .bool false], .bool true]) ∧ w' = (w.alloc (.cells #[.slice a n c, .int .i64 l, .int .i64 f, .bool false] 42)).alloc (.cells #[.slice a n c, .int .i64 l, .int .i64 f, .bool false] 42) := by
  have hzb : (f == 0) = false := by rw [beq_eq_false_iff_ne]; omega
  have h2 : ¬ 0 < f := by omega
  go_enter Try.func34, Try.ntmps34
  go_wp2
  exact bodyPost_ret (v := .tuple #[.agg #[.slice a n c, .int .i64 l, .int .i64 f, .bool false], .bool true]) (by simp [results, Try.results34, go_sem]) rfl ⟨rfl, rfl⟩

/-- What a call of the document's store leaves: the array of its writes is the old one or a new one. -/
def RAfter (w : World) (lv : Value) (S' : Sto) (lv' : Value) (w' : World) : Prop :=
  RefAt w' lv' S' ∧ Below w.heap.size w w' ∧ ∀ k, lv'.ownBlock = some k → lv.ownBlock = some k ∨ w.heap.size ≤ k
theorem RAfter.same {w w' : World} {lv : Value} {S S' : Sto} (h : RefAt w lv S) (hL : S'.L = S.L) (hle : S'.last ≤ S.L.length) (hf : -1 ≤ S'.fuse ∧ S'.fuse ≤ 9223372036854775807) (hb : Below w.heap.size w w') : RAfter w lv S' lv w' := by
  have := h.below hb
  refine ⟨⟨by rw [hL]; exact this.row, by rw [hL]; exact this.len, by rw [hL]; exact hle, hf⟩, hb, fun k hk => .inl hk⟩

set_option maxHeartbeats 1000000 in
theorem rsync_any (w : World) (lv : Value) (S : Sto) (h : RefAt w lv S) :
    Calls Try.prog 29 #[refV lv S] w fun e w' => e = .returned (.tuple #[refV lv S.sync.2, .int .i64 S.sync.1]) ∧ RAfter w lv S.sync.2 lv w' := by
  have HR := Lib.hid h
  obtain ⟨a, c, hv, hl1, hl2, _⟩ := h.form
  have hle := h.le
  obtain ⟨f1, f2⟩ := h.fuse
  unfold maxLen at hl2
  clear h
  obtain ⟨L, l, f, d⟩ := S
  subst hv
  simp only at hl1 hl2 hle f1 f2
  cases d with
  | true =>
    have e1 : (Sto.mk L l f true).sync = (14, Sto.mk L l f true) := by unfold Sto.sync; rw [if_pos rfl]
    rw [e1]
    clear e1
    go_enter Try.func29, Try.ntmps29
    go_wp2_with fail
    exact bodyPost_ret (v := .tuple #[.agg #[.slice a L.length c, .int .i64 l, .int .i64 f, .bool true], .int .i64 14]) (by simp [results, Try.results29, go_sem]) rfl ⟨rfl, .same HR.out rfl hle ⟨f1, f2⟩ (by (repeat (first | exact Below.refl _ _ | assumption | refine Below.drew ?_ | refine below_drewN ?_ _ | refine Below.alloc ?_ (by (try simp); try omega) _ | refine Below.setCell ?_ (by (try simp); try omega) _)))⟩
  | false =>
    rcases Int.lt_trichotomy f 0 with hf | hf | hf
    · have e1 : (Sto.mk L l f false).sync = (0, Sto.mk L L.length f false) := by
        unfold Sto.sync Sto.burn; simp only [Bool.false_eq_true, if_false, if_neg (show ¬ f = 0 by omega), if_neg (show ¬ f > 0 by omega)]
      rw [e1]
      clear e1
      go_enter Try.func29, Try.ntmps29
      go_wp2_with fail
      refine (rcall_neg _ a _ c l f hf).mono ?_
      rintro e w1 ⟨rfl, rfl⟩
      go_wp2_with fail
      exact bodyPost_ret (v := .tuple #[.agg #[.slice a L.length c, .int .i64 L.length, .int .i64 f, .bool false], .int .i64 0]) (by simp [results, Try.results29, go_sem]) rfl ⟨rfl, .same HR.out rfl (Nat.le_refl _) ⟨f1, f2⟩ (by (repeat (first | exact Below.refl _ _ | assumption | refine Below.drew ?_ | refine below_drewN ?_ _ | refine Below.alloc ?_ (by (try simp); try omega) _ | refine Below.setCell ?_ (by (try simp); try omega) _)))⟩
    · subst hf
      have e1 : (Sto.mk L l 0 false).sync = (14, Sto.mk L l 0 true) := by
        unfold Sto.sync; simp only [Bool.false_eq_true, if_false, if_true]
      rw [e1]
      clear e1
      go_enter Try.func29, Try.ntmps29
      go_wp2_with fail
      refine (rcall_zero _ a _ c l).mono ?_
      rintro e w1 ⟨rfl, rfl⟩
      go_wp2_with fail
      exact bodyPost_ret (v := .tuple #[.agg #[.slice a L.length c, .int .i64 l, .int .i64 0, .bool true], .int .i64 14]) (by simp [results, Try.results29, go_sem]) rfl ⟨rfl, .same HR.out rfl hle ⟨f1, f2⟩ (by (repeat (first | exact Below.refl _ _ | assumption | refine Below.drew ?_ | refine below_drewN ?_ _ | refine Below.alloc ?_ (by (try simp); try omega) _ | refine Below.setCell ?_ (by (try simp); try omega) _)))⟩
    · have e1 : (Sto.mk L l f false).sync = (0, Sto.mk L L.length (f - 1) false) := by
        unfold Sto.sync Sto.burn; simp only [Bool.false_eq_true, if_false, if_neg (show ¬ f = 0 by omega), if_pos (show f > 0 by omega)]
      rw [e1]
      clear e1
      go_enter Try.func29, Try.ntmps29
      go_wp2_with fail
      refine (rcall_pos _ a _ c l f hf f2).mono ?_
      rintro e w1 ⟨rfl, rfl⟩
      go_wp2_with fail
      exact bodyPost_ret (v := .tuple #[.agg #[.slice a L.length c, .int .i64 L.length, .int .i64 (f - 1), .bool false], .int .i64 0]) (by simp [results, Try.results29, go_sem]) rfl ⟨rfl, .same HR.out rfl (Nat.le_refl _) ⟨by simp only; omega, by simp only; omega⟩ (by (repeat (first | exact Below.refl _ _ | assumption | refine Below.drew ?_ | refine below_drewN ?_ _ | refine Below.alloc ?_ (by (try simp); try omega) _ | refine Below.setCell ?_ (by (try simp); try omega) _)))⟩

set_option maxHeartbeats 1000000 in
theorem rarm_any (w : World) (lv : Value) (S : Sto) (n : Int) (hn : -9223372036854775808 ≤ n ∧ n ≤ 9223372036854775807) (h : RefAt w lv S) :
    Calls Try.prog 31 #[refV lv S, .int .i64 n] w fun e w' => e = .returned (refV lv (S.arm n)) ∧ RAfter w lv (S.arm n) lv w' := by
  have HR := Lib.hid h
  obtain ⟨a, c, hv, hl1, hl2, _⟩ := h.form
  have hle := h.le
  clear h
  obtain ⟨L, l, f, d⟩ := S
  subst hv
  simp only at hl1 hl2 hle
  unfold Sto.arm
  by_cases hneg : n < 0
  · have e1 : max n (-1) = -1 := by omega
    rw [e1]
    go_enter Try.func31, Try.ntmps31
    go_wp2_with fail
    exact bodyPost_ret (v := .agg #[.slice a L.length c, .int .i64 l, .int .i64 (-1), .bool d]) (by simp [results, Try.results31, go_sem]) rfl ⟨rfl, .same HR.out rfl hle (by simp) (by (repeat (first | exact Below.refl _ _ | assumption | refine Below.drew ?_ | refine below_drewN ?_ _ | refine Below.alloc ?_ (by (try simp); try omega) _ | refine Below.setCell ?_ (by (try simp); try omega) _)))⟩
  · have e1 : max n (-1) = n := by omega
    rw [e1]
    go_enter Try.func31, Try.ntmps31
    go_wp2_with fail
    exact bodyPost_ret (v := .agg #[.slice a L.length c, .int .i64 l, .int .i64 n, .bool d]) (by simp [results, Try.results31, go_sem]) rfl ⟨rfl, .same HR.out rfl hle ⟨by simp only; omega, by simp only; omega⟩ (by (repeat (first | exact Below.refl _ _ | assumption | refine Below.drew ?_ | refine below_drewN ?_ _ | refine Below.alloc ?_ (by (try simp); try omega) _ | refine Below.setCell ?_ (by (try simp); try omega) _)))⟩

set_option maxHeartbeats 1000000 in
theorem rnew_any (w : World) :
    Calls Try.prog 19 #[] w fun e w' => e = .returned (refV (.slice none 0 0) ⟨[], 0, -1, false⟩) ∧ Below w.heap.size w w' ∧ RefAt w' (.slice none 0 0) ⟨[], 0, -1, false⟩ := by
  go_enter Try.func19, Try.ntmps19
  go_wp2_with fail
  exact bodyPost_ret (v := .agg #[.slice none 0 0, .int .i64 0, .int .i64 (-1), .bool false]) (by simp [results, Try.results19, go_sem]) rfl ⟨rfl, by (repeat (first | exact Below.refl _ _ | assumption | refine Below.drew ?_ | refine below_drewN ?_ _ | refine Below.alloc ?_ (by (try simp); try omega) _ | refine Below.setCell ?_ (by (try simp); try omega) _)), .inl ⟨rfl, rfl⟩, by simp, by simp, by simp⟩

set_option maxHeartbeats 1000000 in
theorem rread_any (w : World) (lv : Value) (S : Sto) (i : Int) (h : RefAt w lv S) :
    Calls Try.prog 32 #[refV lv S, .int .i64 i] w fun e w' => e = .returned (.tuple #[.string (S.read i).1, .int .i64 (S.read i).2]) ∧ Below w.heap.size w w' := by
  have hlt := h.row.lt
  obtain ⟨a, cap, hv, hl1, hl2, hl3⟩ := h.form
  have hrow := h.row
  have hlen := h.len
  unfold maxLen at hl2
  clear h
  obtain ⟨L, l, f, d⟩ := S
  subst hv
  simp only at hl1 hl2 hl3 hrow hlen
  cases d with
  | true =>
    have e1 : (Sto.mk L l f true).read i = (eS, 14) := by unfold Sto.read; rw [if_pos rfl]
    rw [e1]
    clear e1 hrow
    go_enter Try.func32, Try.ntmps32
    go_wp2_with fail
    go_ret2
    exact ⟨rfl, by (repeat (first | exact Below.refl _ _ | assumption | refine Below.drew ?_ | refine below_drewN ?_ _ | refine Below.alloc ?_ (by (try simp); try omega) _ | refine Below.setCell ?_ (by (try simp); try omega) _))⟩
  | false =>
    by_cases hi : 0 ≤ i ∧ i < L.length
    · have e1 : (Sto.mk L l f false).read i = (L.getD i.toNat eS, 0) := by unfold Sto.read; rw [if_neg (by simp), if_pos hi]
      rw [e1]
      obtain ⟨h0, h1⟩ := hi
      obtain ⟨k, rfl⟩ := Int.eq_ofNat_of_zero_le h0
      obtain ⟨r, rfl⟩ := hl3 (by omega)
      have hcell := hrow.cell k (.string (L.getD k eS)) (by unfold strsV; rw [List.getElem?_map, List.getD_eq_getElem?_getD, List.getElem?_eq_getElem (by omega)]; rfl)
      rw [Int.toNat_natCast]
      generalize L.getD k eS = x at *
      have hr : r < w.heap.size := hlt r rfl
      clear e1 hrow hl3 hlt
      go_enter Try.func32, Try.ntmps32
      go_wp2_with fail
      go_ret2
      exact ⟨rfl, by (repeat (first | exact Below.refl _ _ | assumption | refine Below.drew ?_ | refine below_drewN ?_ _ | refine Below.alloc ?_ (by (try simp); try omega) _ | refine Below.setCell ?_ (by (try simp); try omega) _))⟩
    · have e1 : (Sto.mk L l f false).read i = (eS, 3) := by unfold Sto.read; rw [if_neg (by simp), if_neg hi]
      rw [e1]
      have hi' : i < 0 ∨ ¬ i < 0 ∧ (L.length : Int) ≤ i := by omega
      clear e1 hi hrow
      rcases hi' with hi | ⟨hi, hi2⟩
      all_goals
        go_enter Try.func32, Try.ntmps32
        go_wp2_with fail
        go_ret2
        exact ⟨rfl, by (repeat (first | exact Below.refl _ _ | assumption | refine Below.drew ?_ | refine below_drewN ?_ _ | refine Below.alloc ?_ (by (try simp); try omega) _ | refine Below.setCell ?_ (by (try simp); try omega) _))⟩

theorem rcrash_fin {w w' : World} {a : Option Addr} {cap : Nat} {S : Sto} {keep : Int} (h : RefAt w (.slice a S.L.length cap) S) (n : Nat) (hn : n ≤ S.L.length) (hst : S.stay keep = n) (hb : Below w.heap.size w w') :
    RAfter w (.slice a S.L.length cap) (S.crash keep) (.slice a n cap) w' := by
  have hr : RowAt w 9 (.slice a n cap) (strsV (S.L.take n)) := by
    have h1 := h.row
    have hl : (strsV (S.L.take n)).length = n := by simp [strsV]; omega
    rcases h1 with ⟨e1, e2⟩ | ⟨r, cap', cur, hv, hg, h1, h2, h3, h4⟩
    · injection e1 with e3 e4 e5
      subst e3; subst e5
      have hn0 : n = 0 := by omega
      subst hn0
      exact .inl ⟨rfl, by simp [strsV]⟩
    · injection hv with h5 h6 h7
      subst h5; subst h7
      have hsl : (strsV S.L).length = S.L.length := by simp [strsV]
      refine .inr ⟨r, cap, cur, by rw [hl], hg, by rw [hl]; omega, h2, h3, ?_⟩
      rw [hl]
      have : (strsV S.L).take n = strsV (S.L.take n) := by unfold strsV; rw [List.map_take]
      rw [← this, ← h4, List.take_take]
      congr 1
      have : (strsV S.L).length = S.L.length := by simp [strsV]
      omega
  have hlen : (S.L.take n).length = n := by simp; omega
  refine ⟨?_, hb, fun k hk => ?_⟩
  · unfold Sto.crash
    rw [hst]
    exact RefAt.below ⟨hr, by simp only [hlen]; have := h.len; omega, by simp only [hlen]; exact Nat.le_refl _, by simp⟩ hb
  · cases a with
    | none => simp [Value.ownBlock] at hk
    | some x => exact .inl (by simpa [Value.ownBlock] using hk)

set_option maxRecDepth 100000 in
set_option maxHeartbeats 1000000 in
theorem rcrash_any (w : World) (lv : Value) (S : Sto) (keep : Int) (hn : -9223372036854775808 ≤ keep ∧ keep ≤ 9223372036854775807) (h : RefAt w lv S) :
    Calls Try.prog 30 #[refV lv S, .int .i64 keep] w fun e w' => ∃ lv', e = .returned (refV lv' (S.crash keep)) ∧ RAfter w lv (S.crash keep) lv' w' := by
  have HR := Lib.hid h
  obtain ⟨a, cap, hv, hl1, hl2, hl3⟩ := h.form
  have hle := h.le
  have hlen := h.len
  unfold maxLen at hl2
  clear h hl3
  subst hv
  suffices H : ∀ n : Nat, n ≤ S.L.length → S.stay keep = n → Calls Try.prog 30 #[refV (.slice a S.L.length cap) S, .int .i64 keep] w fun e w' => e = .returned (.agg #[.slice a n cap, .int .i64 n, .int .i64 (-1), .bool false]) ∧ Below w.heap.size w w' by
    refine (H (S.stay keep) (by unfold Sto.stay; omega) rfl).mono ?_
    rintro e w' ⟨rfl, hb⟩
    exact ⟨_, rfl, rcrash_fin HR.out _ (by unfold Sto.stay; omega) rfl hb⟩
  obtain ⟨L, l, f, d⟩ := S
  simp only at hl1 hl2 hle hlen
  intro n hn hst
  unfold Sto.stay at hst
  simp only at hst hn
  have hk3 : keep < 0 ∨ ¬ keep < 0 ∧ ¬ (L.length : Int) - l < keep ∨ ¬ keep < 0 ∧ (L.length : Int) - l < keep := by omega
  have hnn : ¬ (L.length : Int) - l < 0 := by omega
  have b0 : (n : Int) ≤ (cap : Int) := by omega
  have b1 : 0 ≤ (l : Int) := Int.natCast_nonneg _
  have b2 : (l : Int) ≤ (cap : Int) := by omega
  have b3 : (L.length : Int) ≤ (cap : Int) := by omega
  rcases hk3 with h1 | ⟨h1, h2⟩ | ⟨h1, h2⟩
  · have hnl : n = l := by omega
    subst hnl
    clear hst
    go_enter Try.func30, Try.ntmps30
    go_wp2_with fail
    exact bodyPost_ret (v := .agg #[.slice a n cap, .int .i64 n, .int .i64 (-1), .bool false]) (by simp [results, Try.results30, go_sem]) rfl ⟨rfl, by (repeat (first | exact Below.refl _ _ | assumption | refine Below.drew ?_ | refine below_drewN ?_ _ | refine Below.alloc ?_ (by (try simp); try omega) _ | refine Below.setCell ?_ (by (try simp); try omega) _))⟩
  · have w1 : IntKind.i64.wrap ((l : Int) + keep) = (n : Int) := by rw [IntWalk.i64_in _ (by omega)]; omega
    clear hst
    go_enter Try.func30, Try.ntmps30
    go_wp2_with fail
    exact bodyPost_ret (v := .agg #[.slice a n cap, .int .i64 n, .int .i64 (-1), .bool false]) (by simp [results, Try.results30, go_sem]) rfl ⟨rfl, by (repeat (first | exact Below.refl _ _ | assumption | refine Below.drew ?_ | refine below_drewN ?_ _ | refine Below.alloc ?_ (by (try simp); try omega) _ | refine Below.setCell ?_ (by (try simp); try omega) _))⟩
  · have w1 : IntKind.i64.wrap ((l : Int) + ((L.length : Int) - (l : Int))) = (n : Int) := by rw [IntWalk.i64_in _ (by omega)]; omega
    clear hst
    go_enter Try.func30, Try.ntmps30
    go_wp2_with fail
    exact bodyPost_ret (v := .agg #[.slice a n cap, .int .i64 n, .int .i64 (-1), .bool false]) (by simp [results, Try.results30, go_sem]) rfl ⟨rfl, by (repeat (first | exact Below.refl _ _ | assumption | refine Below.drew ?_ | refine below_drewN ?_ _ | refine Below.alloc ?_ (by (try simp); try omega) _ | refine Below.setCell ?_ (by (try simp); try omega) _))⟩
end Go.Proofs.Ytgifckledbopmaa
