/- The walk of the second loop of netting.paired on the example's sums. -/
import Derived.Test.YtpflojfdlmdmfaaNetB
import Derived.Deep.DeepCutAuto
namespace Go.Proofs.Ytpflojfdlmdmfaa
open Go.RowKit Go.MapKept Go.ChangeMaps

theorem at_top' {w : World} {o : Obj} {g : Nat} (h : g = w.heap.size) : (w.alloc o).heap[g]? = some o := by
  subst h; exact heap_alloc_new w o
theorem lt_of {w : World} {g : Nat} {o : Obj} (h : w.heap[g]? = some o) : g < w.heap.size := by
  rcases Nat.lt_or_ge g w.heap.size with hl | hl
  · exact hl
  · rw [Array.getElem?_eq_none hl] at h; cases h
theorem up1 {w : World} {o o' : Obj} {g : Nat} (h : w.heap[g]? = some o') : (w.alloc o).heap[g]? = some o' := (Below.heap_alloc _ _ _ (lt_of h)).trans h

/-- An entry of a map that has none of that key: laid, and stored: whichever way. -/
theorem put_new {w : World} {g : Nat} {es : Array MapEntry} {c : Nat} {k : Value} (n : Int) (h : w.heap[g]? = some (.map es c)) (ck : ∀ e (w : World), (Instr.checkKey e 10000 73 k).run Try.prog w = .ok () w) (hf : ∀ w : World, (Instr.findKey 73 k es.toList).run Try.prog w = .ok none w)
    (hf2 : ∀ w : World, ∃ i, (Instr.findKey 73 k (es.push ⟨k, .int .i64 0, c⟩).toList).run Try.prog w = .ok (some (i, .int .i64 0)) w)
    (hi : (es.push ⟨k, .int .i64 0, c⟩).findIdx? (fun e => ((e.born : Nat) : Int) == ((c : Nat) : Int)) = some es.size) :
    (Instr.lookup 65 (.map (some g)) k false).run Try.prog w = .ok (.int .i64 0) w ∧
    ∃ w2, (Instr.mapEntry 65 (.map (some g)) k).run Try.prog w = .ok (.tuple #[.int .i64 0, .int .i64 c]) w2 ∧ ButOne g w w2 ∧ (Instr.lookup 65 (.map (some g)) k false).run Try.prog w2 = .ok (.int .i64 0) w2 ∧
      ∃ w3, (Instr.entryStore 65 (.map (some g)) (.int .i64 c) (.int .i64 n)).run Try.prog w2 = .ok () w3 ∧ ButOne g w2 w3 ∧ w3.heap[g]? = some (.map ((es.push ⟨k, .int .i64 0, c⟩).modify es.size fun e => { e with val := .int .i64 n }) (c + 1)) := by
  have h2 := set_at w g _ (.map (es.push ⟨k, .int .i64 0, c⟩) (c + 1)) h
  obtain ⟨i, hf2'⟩ := hf2 (setBlock w g (.map (es.push ⟨k, .int .i64 0, c⟩) (c + 1)))
  exact ⟨run_look_none h (fun e => ck e _) (hf _), _, run_entry_new h (fun e => ck e _) (hf _), butOne_set _ _ _, run_look h2 (fun e => ck e _) hf2', _, run_store h2 c _ hi, butOne_set _ _ _, set_at _ g _ _ h2⟩

theorem ButOne.cell4 {g : Nat} {w w' : World} (h : ButOne g w w') {b : Nat} {x0 x1 x2 x3 : Value} {t : TypeId} (hb : w.heap[b]? = some (.cells #[x0, x1, x2, x3] t (0, 0))) (hne : b ≠ g) :
    w'.cell? ⟨b, 0, none⟩ = some x0 ∧ w'.cell? ⟨b, 1, none⟩ = some x1 ∧ w'.cell? ⟨b, 2, none⟩ = some x2 ∧ w'.cell? ⟨b, 3, none⟩ = some x3 := box4 ((h.block b hne).trans hb)
theorem below_butOne {B g : Nat} {a w w' : World} (h : Below B a w) (hb : ButOne g w w') (hg : B ≤ g) : Below B a w' := h.trans ⟨hb.os, hb.tape, hb.output, by rw [hb.size]; exact Nat.le_refl _, fun k hk => hb.block k (by omega)⟩

theorem rounds_go {P : Program} {c : Code} {Q : Exit → Act → World → Prop} {n : Nat} {a : Act} {w : World} (h : c.wp P (Exit.then (Code.rounds P c Q n) Q) a w) : Code.rounds P c Q (n + 1) a w := h
theorem run_mk (w : World) : (Instr.makeMap 65 none).run Try.prog w = .ok (.map (some w.heap.size)) (w.alloc (.map #[] 0)) := rfl

abbrev eAB : MapEntry := ⟨kAB, .int .i64 5, 0⟩
abbrev eBA : MapEntry := ⟨kBA, .int .i64 3, 1⟩
/-- The range over the sums stands so: what has been met, what the new map holds. -/
structure It (v : World) (G m r : Nat) (seen : Array Nat) (L : Array MapEntry) (cl : Nat) : Prop where
  hG : v.heap[G]? = some (.map #[eAB, eBA] 2)
  hm : v.heap[m]? = some (.map L cl)
  hr : v.heap[r]? = some (.mapIter (some G) 2 seen 2)
  ne : G ≠ m ∧ G ≠ r ∧ m ≠ r
theorem It.alloc {v : World} {G m r : Nat} {seen : Array Nat} {L : Array MapEntry} {cl : Nat} (h : It v G m r seen L cl) (o : Obj) : It (v.alloc o) G m r seen L cl := ⟨up1 h.hG, up1 h.hm, up1 h.hr, h.ne⟩
theorem It.next {v : World} {G m r : Nat} {seen : Array Nat} {L : Array MapEntry} {cl : Nat} (h : It v G m r seen L cl) :
    ((leftOf #[eAB, eBA] seen).size = 0 ∧ (Instr.next (.pointer (some ⟨r, 0, none⟩)) false 0).run Try.prog v = .ok (.tuple #[.bool false]) v) ∨
    ∃ e ∈ (leftOf #[eAB, eBA] seen).toList, ∃ v1 : World, (Instr.next (.pointer (some ⟨r, 0, none⟩)) false 0).run Try.prog v = .ok (.tuple #[.bool true, e.key, e.val]) v1 ∧ It v1 G m r (seen.push e.born) L cl ∧ ButOne r v v1 := by
  rcases run_next_at (es := #[eAB, eBA]) (c := 2) r 2 2 seen h.hr h.hG (by intro x hx; simp at hx; rcases hx with rfl | rfl <;> decide) (Nat.le_refl _) 0 with h1 | ⟨e, he, v1, h2, h3, h4⟩
  · exact .inl h1
  · exact .inr ⟨e, he, v1, h2, ⟨(h4.block G h.ne.2.1).trans h.hG, (h4.block m h.ne.2.2).trans h.hm, h3, h.ne⟩, h4⟩
theorem It.entAB {v : World} {G m r : Nat} {seen : Array Nat} {L : Array MapEntry} {cl : Nat} (h : It v G m r (seen.push 0) L cl) : (Instr.entry (.pointer (some ⟨r, 0, none⟩))).run Try.prog v = .ok (.tuple #[kAB, .int .i64 5]) v := run_entry_at r 2 seen eAB h.hr h.hG rfl
theorem It.entBA {v : World} {G m r : Nat} {seen : Array Nat} {L : Array MapEntry} {cl : Nat} (h : It v G m r (seen.push 1) L cl) : (Instr.entry (.pointer (some ⟨r, 0, none⟩))).run Try.prog v = .ok (.tuple #[kBA, .int .i64 3]) v := run_entry_at r 2 seen eBA h.hr h.hG rfl
theorem It.lookBA {v : World} {G m r : Nat} {seen : Array Nat} {L : Array MapEntry} {cl : Nat} (h : It v G m r seen L cl) : (Instr.lookup 65 (.map (some G)) kBA false).run Try.prog v = .ok (.int .i64 3) v := run_look h.hG (fun e => ck_BA e _) (fk_BA2 _ _ _ _ _)
theorem It.lookAB {v : World} {G m r : Nat} {seen : Array Nat} {L : Array MapEntry} {cl : Nat} (h : It v G m r seen L cl) : (Instr.lookup 65 (.map (some G)) kAB false).run Try.prog v = .ok (.int .i64 5) v := run_look h.hG (fun e => ck_AB e _) (fk_AB _ _ _ _)
theorem It.upd {v : World} {G m r : Nat} {seen : Array Nat} (h : It v G m r seen #[] 0) : ∃ v2, (Instr.mapUpdate 65 (.map (some m)) kAB (.int .i64 2)).run Try.prog v = .ok () v2 ∧ It v2 G m r seen #[⟨kAB, .int .i64 2, 0⟩] 1 ∧ ButOne m v v2 := by
  refine ⟨_, run_update_new h.hm (fun e => ck_AB e _) (fk_nil _ _) _, ?_, butOne_set _ _ _⟩
  have hb := butOne_set v m (.map (#[].push ⟨kAB, .int .i64 2, 0⟩) (0 + 1))
  exact ⟨(hb.block G h.ne.1).trans h.hG, set_at _ _ _ _ h.hm, (hb.block r (fun e => h.ne.2.2 e.symm)).trans h.hr, h.ne⟩
theorem left0 : leftOf #[eAB, eBA] #[] = #[eAB, eBA] := by kernel_rfl
theorem leftA : leftOf #[eAB, eBA] #[0] = #[eBA] := by kernel_rfl
theorem leftB : leftOf #[eAB, eBA] #[1] = #[eAB] := by kernel_rfl
theorem leftAB : leftOf #[eAB, eBA] #[0, 1] = #[] := by kernel_rfl
theorem leftBA : leftOf #[eAB, eBA] #[1, 0] = #[] := by kernel_rfl

/-- The loops of a code, the outermost. -/
def allLoops : Code → List Code
  | .loop c => [c]
  | .seq a b => allLoops a ++ allLoops b
  | .block _ c => allLoops c
  | .scope c => allLoops c
  | .cond _ a b => allLoops a ++ allLoops b
  | _ => []
noncomputable def body2 : Code := ((Try.f37.body.bind fun c => (allLoops c)[1]?).getD .skip)

set_option maxRecDepth 100000 in
set_option maxHeartbeats 4000000 in
theorem loop2 (Q : Exit → Act → World → Prop) (w v0 : World) (B G m r : Nat) (s0 s1 s4 s5 s7 s8 s9 s10 s11 s12 s13 s14 s15 s16 s17 s18 s19 s20 s21 s22 s23 s24 s25 s26 s27 s28 s29 s30 s31 s32 s34 s35 s36 s37 s38 s39 s40 s41 s42 s43 s44 s45 s46 s47 s48 s49 s50 s51 s52 s53 s54 s55 : Value) (hBw : B ≤ w.heap.size) (hm : B ≤ m) (hrr : B ≤ r) (hi : It v0 G m r #[] #[] 0) (hbv : Below B w v0)
    (hexit : ∀ (y7 y8 y34 y35 y36 y37 y38 y39 y40 y41 y42 y43 y44 y45 y46 y47 y48 y49 y50 y51 y52 y53 y54 : Value) (v : World), It v G m r #[0, 1] #[⟨kAB, .int .i64 2, 0⟩] 1 ∨ It v G m r #[1, 0] #[⟨kAB, .int .i64 2, 0⟩] 1 → Below B w v → Q (.exit 2) ⟨#[s0, s1, .map none, .map (some G), s4, s5, .map (some m), y7, y8, s9, s10, s11, s12, s13, s14, s15, s16, s17, s18, s19, s20, s21, s22, s23, s24, s25, s26, s27, s28, s29, s30, s31, s32, .pointer (some ⟨r, 0, none⟩), y34, y35, y36, y37, y38, y39, y40, y41, y42, y43, y44, y45, y46, y47, y48, y49, y50, y51, y52, y53, y54, s55], []⟩ v) :
    Code.wp Try.prog (Code.loop body2) Q ⟨#[s0, s1, .map none, .map (some G), s4, s5, .map (some m), s7, s8, s9, s10, s11, s12, s13, s14, s15, s16, s17, s18, s19, s20, s21, s22, s23, s24, s25, s26, s27, s28, s29, s30, s31, s32, .pointer (some ⟨r, 0, none⟩), s34, s35, s36, s37, s38, s39, s40, s41, s42, s43, s44, s45, s46, s47, s48, s49, s50, s51, s52, s53, s54, s55], []⟩ v0 := by
  have I0 := Lib.hid hi
  have HBv := Lib.hid hbv
  have HX := Lib.hid hexit
  clear hi hbv hexit
  have wr2 : IntKind.i64.wrap 2 = 2 := IntWalk.i64_in _ (by omega)
  have wr2' : IntKind.i64.wrap (5 - 3) = 2 := IntWalk.i64_in _ (by omega)
  have wrm : IntKind.i64.wrap (-2) = -2 := IntWalk.i64_in _ (by omega)
  have wrm' : IntKind.i64.wrap (3 - 5) = -2 := IntWalk.i64_in _ (by omega)
  refine wp_loop_rounds 3 ?_
  refine rounds_go ?_
  conv => arg 2; whnf
  rcases I0.out.next with ⟨h0, _⟩ | ⟨e, he, v1, hn, hI1, hb1⟩
  · exact absurd h0 (by rw [left0]; decide)
  rw [left0] at he
  simp only [List.mem_cons, List.not_mem_nil, or_false] at he
  rcases he with rfl | rfl
  · have n1 : (Instr.next (.pointer (some ⟨r, 0, none⟩)) false 0).run Try.prog v0 = .ok (.tuple #[.bool true, kAB, .int .i64 5]) v1 := hn
    have I1 : Hid (It v1 G m (r) #[0] #[] 0) := hI1
    have t1 := I1.out.entAB (seen := #[])
    have l1 := (I1.out.alloc (.cells #[.string sU, .string sA, .string sB] 73)).lookBA
    have HB1 := Lib.hid ((below_butOne HBv.out hb1 (by assumption)).alloc (by rw [hb1.size]; exact Nat.le_trans hBw HBv.out.size) (.cells #[.string sU, .string sA, .string sB] 73))
    clear hn hI1 hb1
    obtain ⟨v2, u1, hI2, hb2⟩ := (I1.out.alloc (.cells #[.string sU, .string sA, .string sB] 73)).upd
    have HB2 := Lib.hid (below_butOne HB1.out hb2 (by assumption))
    clear hb2
    have I2 := Lib.hid hI2
    clear hI2
    go_wp2_with fail
    refine rounds_go ?_
    conv => arg 2; whnf
    clear n1 t1 l1 u1
    rcases I2.out.next with ⟨h0, _⟩ | ⟨e, he, v3, hn, hI3, hb3⟩
    · exact absurd h0 (by rw [leftA]; decide)
    rw [leftA] at he
    simp only [List.mem_singleton] at he
    subst he
    have n2 : (Instr.next (.pointer (some ⟨r, 0, none⟩)) false 0).run Try.prog v2 = .ok (.tuple #[.bool true, kBA, .int .i64 3]) v3 := hn
    have I3 : Hid (It v3 G m (r) #[0, 1] #[⟨kAB, .int .i64 2, 0⟩] 1) := hI3
    have t2 := I3.out.entBA (seen := #[0])
    have l2 := (I3.out.alloc (.cells #[.string sU, .string sB, .string sA] 73)).lookAB
    have HB3 := Lib.hid ((below_butOne HB2.out hb3 (by assumption)).alloc (by rw [hb3.size]; exact Nat.le_trans hBw HB2.out.size) (.cells #[.string sU, .string sB, .string sA] 73))
    clear hn hI3 hb3
    have I4 := Lib.hid (I3.out.alloc (.cells #[.string sU, .string sB, .string sA] 73))
    have hx : (Instr.next (.pointer (some ⟨r, 0, none⟩)) false 0).run Try.prog (v3.alloc (.cells #[.string sU, .string sB, .string sA] 73)) = .ok (.tuple #[.bool false]) (v3.alloc (.cells #[.string sU, .string sB, .string sA] 73)) := by
      rcases I4.out.next with ⟨_, h⟩ | ⟨e, he, _⟩
      · exact h
      · rw [leftAB] at he; cases he
    go_wp2_with fail
    refine rounds_go ?_
    conv => arg 2; whnf
    clear n2 t2 l2
    go_wp2_with fail
    exact HX.out _ _ _ _ _ _ _ _ _ _ _ _ _ _ _ _ _ _ _ _ _ _ _ _ (.inl I4.out) HB3.out
  · have n1 : (Instr.next (.pointer (some ⟨r, 0, none⟩)) false 0).run Try.prog v0 = .ok (.tuple #[.bool true, kBA, .int .i64 3]) v1 := hn
    have I1 : Hid (It v1 G m (r) #[1] #[] 0) := hI1
    have t1 := I1.out.entBA (seen := #[])
    have l1 := (I1.out.alloc (.cells #[.string sU, .string sB, .string sA] 73)).lookAB
    have HB1 := Lib.hid ((below_butOne HBv.out hb1 (by assumption)).alloc (by rw [hb1.size]; exact Nat.le_trans hBw HBv.out.size) (.cells #[.string sU, .string sB, .string sA] 73))
    clear hn hI1 hb1
    have hI2 := I1.out.alloc (.cells #[.string sU, .string sB, .string sA] 73)
    have HB2 : Hid (Below B w (v1.alloc (.cells #[.string sU, .string sB, .string sA] 73))) := HB1.out
    have I2 := Lib.hid hI2
    clear hI2
    go_wp2_with fail
    refine rounds_go ?_
    conv => arg 2; whnf
    clear n1 t1 l1
    rcases I2.out.next with ⟨h0, _⟩ | ⟨e, he, v3, hn, hI3, hb3⟩
    · exact absurd h0 (by rw [leftB]; decide)
    rw [leftB] at he
    simp only [List.mem_singleton] at he
    subst he
    have n2 : (Instr.next (.pointer (some ⟨r, 0, none⟩)) false 0).run Try.prog (v1.alloc (.cells #[.string sU, .string sB, .string sA] 73)) = .ok (.tuple #[.bool true, kAB, .int .i64 5]) v3 := hn
    have I3 : Hid (It v3 G m (r) #[1, 0] #[] 0) := hI3
    have t2 := I3.out.entAB (seen := #[1])
    have l2 := (I3.out.alloc (.cells #[.string sU, .string sA, .string sB] 73)).lookBA
    have HB3 := Lib.hid ((below_butOne HB2.out hb3 (by assumption)).alloc (by rw [hb3.size]; exact Nat.le_trans hBw HB2.out.size) (.cells #[.string sU, .string sA, .string sB] 73))
    clear hn hI3 hb3
    obtain ⟨v4, u1, hI4, hb4⟩ := (I3.out.alloc (.cells #[.string sU, .string sA, .string sB] 73)).upd
    have HB4 := Lib.hid (below_butOne HB3.out hb4 (by assumption))
    have I4 := Lib.hid hI4
    clear hb4 hI4
    have hx : (Instr.next (.pointer (some ⟨r, 0, none⟩)) false 0).run Try.prog v4 = .ok (.tuple #[.bool false]) v4 := by
      rcases I4.out.next with ⟨_, h⟩ | ⟨e, he, _⟩
      · exact h
      · rw [leftBA] at he; cases he
    go_wp2_with fail
    refine rounds_go ?_
    conv => arg 2; whnf
    clear n2 t2 l2 u1
    go_wp2_with fail
    exact HX.out _ _ _ _ _ _ _ _ _ _ _ _ _ _ _ _ _ _ _ _ _ _ _ _ (.inr I4.out) HB4.out
end Go.Proofs.Ytpflojfdlmdmfaa
