/- Maps whose keys are roads (three strings): what lookup, an entry, its store, an update, a range tell at the example's keys. -/
import Derived.Test.YtpflojfdlmdmfaaNetA
import Derived.Laws.IdiomRangeMap
import Derived.ChangeMaps4
namespace Go.Proofs.Ytpflojfdlmdmfaa
open Go.RowKit Go.MapKept Go.ChangeMaps

abbrev kAB : Value := .agg #[.string sU, .string sA, .string sB]
abbrev kBA : Value := .agg #[.string sU, .string sB, .string sA]

/-- All but one block is as it was. -/
structure ButOne (r : Nat) (w w' : World) : Prop where
  os : w'.os = w.os
  tape : w'.tape = w.tape
  output : w'.output = w.output
  size : w'.heap.size = w.heap.size
  block : ∀ k, k ≠ r → w'.heap[k]? = w.heap[k]?
theorem butOne_set (w : World) (r : Nat) (o : Obj) : ButOne r w (setBlock w r o) := ⟨rfl, rfl, rfl, by simp [setBlock], fun k hk => by
  show (w.heap.setIfInBounds r o)[k]? = _
  rw [Array.getElem?_setIfInBounds_ne (fun h => hk h.symm)]⟩
theorem set_at (w : World) (r : Nat) (o o' : Obj) (h : w.heap[r]? = some o) : (setBlock w r o').heap[r]? = some o' := by
  have hlt : r < w.heap.size := by
    rcases Nat.lt_or_ge r w.heap.size with hl | hl
    · exact hl
    · rw [Array.getElem?_eq_none hl] at h; cases h
  show (w.heap.setIfInBounds r o')[r]? = _
  simp [hlt]

theorem ck_AB (e : Bool) (w : World) : (Instr.checkKey e 10000 73 kAB).run Try.prog w = .ok () w := by cases e <;> kernel_rfl
theorem ck_BA (e : Bool) (w : World) : (Instr.checkKey e 10000 73 kBA).run Try.prog w = .ok () w := by cases e <;> kernel_rfl
theorem fk_nil (k : Value) (w : World) : (Instr.findKey 73 k []).run Try.prog w = .ok none w := by kernel_rfl
theorem fk_BA_AB (v : Value) (n : Nat) (w : World) : (Instr.findKey 73 kBA [⟨kAB, v, n⟩]).run Try.prog w = .ok none w := by kernel_rfl
theorem fk_AB (v : Value) (n : Nat) (l : List MapEntry) (w : World) : (Instr.findKey 73 kAB (⟨kAB, v, n⟩ :: l)).run Try.prog w = .ok (some (0, v)) w := by kernel_rfl
theorem fk_BA2 (v u : Value) (n m : Nat) (w : World) : (Instr.findKey 73 kBA [⟨kAB, v, n⟩, ⟨kBA, u, m⟩]).run Try.prog w = .ok (some (1, u)) w := by kernel_rfl
theorem zero2 (w : World) : (zeroValue 2).run Try.prog w = .ok (.int .i64 0) w := by kernel_rfl

section
variable {w : World} {g : Nat} {es : Array MapEntry} {c : Nat} {k : Value}
theorem run_look (h : w.heap[g]? = some (.map es c)) (ck : ∀ e, (Instr.checkKey e 10000 73 k).run Try.prog w = .ok () w) {i : Nat} {v : Value} (hf : (Instr.findKey 73 k es.toList).run Try.prog w = .ok (some (i, v)) w) :
    (Instr.lookup 65 (.map (some g)) k false).run Try.prog w = .ok v w := by
  simp [Instr.lookup, run_underlying Try.underlying65, MapKept.run_getObj_map h, ck, hf, Result.andThen]
theorem run_look_none (h : w.heap[g]? = some (.map es c)) (ck : ∀ e, (Instr.checkKey e 10000 73 k).run Try.prog w = .ok () w) (hf : (Instr.findKey 73 k es.toList).run Try.prog w = .ok none w) :
    (Instr.lookup 65 (.map (some g)) k false).run Try.prog w = .ok (.int .i64 0) w := by
  simp [Instr.lookup, run_underlying Try.underlying65, MapKept.run_getObj_map h, ck, hf, Result.andThen]
theorem run_entry_new (h : w.heap[g]? = some (.map es c)) (ck : ∀ e, (Instr.checkKey e 10000 73 k).run Try.prog w = .ok () w) (hf : (Instr.findKey 73 k es.toList).run Try.prog w = .ok none w) :
    (Instr.mapEntry 65 (.map (some g)) k).run Try.prog w = .ok (.tuple #[.int .i64 0, .int .i64 c]) (setBlock w g (.map (es.push ⟨k, .int .i64 0, c⟩) (c + 1))) := by
  simp [Instr.mapEntry, run_underlying Try.underlying65, MapKept.run_getObj_map h, ck, hf, MapKept.run_setObj_map _ h, Result.andThen, setBlock, goInt]
theorem run_update_new (h : w.heap[g]? = some (.map es c)) (ck : ∀ e, (Instr.checkKey e 10000 73 k).run Try.prog w = .ok () w) (hf : (Instr.findKey 73 k es.toList).run Try.prog w = .ok none w) (v : Value) :
    (Instr.mapUpdate 65 (.map (some g)) k v).run Try.prog w = .ok () (setBlock w g (.map (es.push ⟨k, v, c⟩) (c + 1))) := by
  simp [Instr.mapUpdate, run_underlying Try.underlying65, MapKept.run_getObj_map h, ck, hf, MapKept.run_setObj_map _ h, Result.andThen, setBlock]
theorem run_store (h : w.heap[g]? = some (.map es c)) (st : Nat) (v : Value) {j : Nat} (hi : es.findIdx? (fun e => ((e.born : Nat) : Int) == ((st : Nat) : Int)) = some j) :
    (Instr.entryStore 65 (.map (some g)) (.int .i64 st) v).run Try.prog w = .ok () (setBlock w g (.map (es.modify j fun e => { e with val := v }) c)) := by
  simp [Instr.entryStore, MapKept.run_getObj_map h, asInt, asIntOf, hi, MapKept.run_setObj_map _ h, Result.andThen, setBlock]
theorem run_range_at (h : w.heap[g]? = some (.map es c)) : (Instr.range 65 (.map (some g))).run Try.prog w = .ok (.pointer (some ⟨w.heap.size, 0, none⟩)) (w.alloc (.mapIter (some g) c #[] c)) := run_range_map w 65 73 2 g es c Try.underlying65 h

theorem run_next_at (r since c0 : Nat) (seen : Array Nat) (hr : w.heap[r]? = some (.mapIter (some g) since seen c0)) (hb : w.heap[g]? = some (.map es c)) (hold : ∀ x ∈ es.toList, x.born < since) (hsc : since ≤ c0) (ty : TypeId) :
    ((leftOf es seen).size = 0 ∧ (Instr.next (.pointer (some ⟨r, 0, none⟩)) false ty).run Try.prog w = .ok (.tuple #[.bool false]) w) ∨
    ∃ e ∈ (leftOf es seen).toList, ∃ w1 : World, (Instr.next (.pointer (some ⟨r, 0, none⟩)) false ty).run Try.prog w = .ok (.tuple #[.bool true, e.key, e.val]) w1 ∧ w1.heap[r]? = some (.mapIter (some g) since (seen.push e.born) c) ∧ ButOne r w w1 := by
  simp only [Instr.next, getObj, Sem.run_bind, Sem.run, hr, hb, Result.andThen, next_test_false seen es since c0 hold hsc, Bool.false_eq_true, if_false]
  unfold leftOf
  have hmem : ∀ x ∈ (Array.filter (fun e => !seen.contains e.born) es).toList, x.born < since := fun x hx => hold x (by simp at hx ⊢; exact hx.1)
  generalize Array.filter (fun e => !seen.contains e.born) es = L at hmem ⊢
  have e1 : L.filter (fun x => decide (x.born < since)) = L := Array.filter_eq_self.2 (fun x hx => by simpa using hmem x (by simpa using hx))
  have e2 : L.filter (fun x => decide (x.born ≥ since)) = #[] := by
    rw [Array.filter_eq_empty_iff]
    intro x hx
    have := hmem x (by simpa using hx)
    simp
    omega
  simp only [e1, e2, Array.append_empty]
  by_cases h0 : L.size = 0
  · left
    have : L = #[] := Array.eq_empty_of_size_eq_zero h0
    subst this
    refine ⟨rfl, ?_⟩
    simp [choose, Sem.run, Question.forced]
  · right
    have hne : L.isEmpty = false := by simp [Array.isEmpty, h0]
    simp only [hne, Bool.false_eq_true, if_false, Array.empty_append, Array.size_map]
    have hch : ∃ (j : Nat) (w1 : World), j < L.size ∧ (w1.heap = w.heap ∧ w1.os = w.os ∧ w1.tape = w.tape ∧ w1.output = w.output) ∧ (choose (Question.mapNext L.size)).run Try.prog w = .ok j w1 := by
      by_cases hf : L.size ≤ 1
      · exact ⟨0, w, by omega, ⟨rfl, rfl, rfl, rfl⟩, by simp [choose, Sem.run, Question.forced, hf]⟩
      · exact ⟨_, w.drew, Nat.mod_lt _ (by omega), ⟨rfl, rfl, rfl, rfl⟩, by
          simp only [choose, Sem.run, Question.forced, decide_eq_true_eq, hf, if_false, Question.cut]
          rfl⟩
    obtain ⟨j, w1, hj, ⟨hh, ho, ht, hu⟩, hrun⟩ := hch
    have hr1 : w1.heap[r]? = some (.mapIter (some g) since seen c0) := by rw [hh]; exact hr
    have hset : (setObj r (.mapIter (some g) since (seen.push (L[j]).born) c)).run Try.prog w1 = .ok () (setBlock w1 r (.mapIter (some g) since (seen.push (L[j]).born) c)) := by
      simp [setObj, Sem.run, hr1, setBlock]
    refine ⟨L[j], by simp, setBlock w1 r (.mapIter (some g) since (seen.push (L[j]).born) c), ?_, set_at w1 r _ _ hr1, ?_⟩
    · simp only [hrun, Array.getElem?_map, Array.getElem?_eq_getElem hj, Option.map_some, Sem.run_bind, hset, Result.andThen]
      rfl
    · have hb1 := butOne_set w1 r (.mapIter (some g) since (seen.push (L[j]).born) c)
      exact ⟨hb1.os.trans ho, hb1.tape.trans ht, hb1.output.trans hu, by rw [hb1.size, hh], fun k hk => by rw [hb1.block k hk, hh]⟩

theorem run_entry_at (r since : Nat) (seen : Array Nat) (e : MapEntry) (hr : w.heap[r]? = some (.mapIter (some g) since (seen.push e.born) c)) (hb : w.heap[g]? = some (.map es c)) (hf : es.find? (·.born == e.born) = some e) :
    (Instr.entry (.pointer (some ⟨r, 0, none⟩))).run Try.prog w = .ok (.tuple #[e.key, e.val]) w := by
  simp only [Instr.entry, getObj, Sem.run_bind, Sem.run, hr, hb, Result.andThen, Array.back?_push, bne_self_eq_false, Bool.false_eq_true, if_false, hf]
  rfl
end
end Go.Proofs.Ytpflojfdlmdmfaa
