/- What the reading of an argument []Op gives the walks; the walk of Few. -/
import Derived.Test.YtgifckledbopmaaArgs
import Derived.Test.YtgifckledbopmaaDo
import Derived.Deep.Strs
namespace Go.Proofs.Ytgifckledbopmaa
open Go.ChangeShapes Go.WideShapes Go.ChangeAt Go.WideMaps Go.WideElems Go.RowKit

structure OpOf where
  kind : Int
  n : Int
  t : ByteArray

/-- The calls of an argument, cell by cell. -/
def ArgOps (w : World) (A : Option Addr) (n : Nat) (os : Nat → OpOf) : Prop :=
  ∀ j, j < n → ∃ b o, A = some ⟨b, o, none⟩ ∧ b < w.heap.size ∧ w.cell? ⟨b, o + j * 3, none⟩ = some (.int .i64 (os j).kind) ∧ w.cell? ⟨b, o + j * 3 + 1, none⟩ = some (.int .i64 (os j).n) ∧ w.cell? ⟨b, o + j * 3 + 2, none⟩ = some (.string (os j).t) ∧
    (-9223372036854775808 ≤ (os j).n ∧ (os j).n ≤ 9223372036854775807) ∧ (os j).t.size ≤ maxLen

section
variable {H : Type} {enc : TypeId × Value → H} {W : World}
theorem c47 : Try.prog.cellsOf 47 = 3 := by kernel_rfl

theorem three_of {α : Type} {l : List α} (h : l.length = 3) : ∃ a b c, l = [a, b, c] := by
  match l, h with
  | [a, b, c], _ => exact ⟨a, b, c, rfl⟩

theorem op_of_trod {fuel : Nat} {cs : List Value} {x : DataW H × List MemPlace} (h : DataW.trod enc Try.prog W 0 (fun _ => true) true fuel 47 cs = some x) :
    ∃ k n t, cs = [.int .i64 k, .int .i64 n, .string t] ∧ (-9223372036854775808 ≤ n ∧ n ≤ 9223372036854775807) ∧ t.size ≤ maxLen := by
  obtain ⟨y0, y1, y2, m, _, hl, t0, t1, t2⟩ := Go.Deep.trod_struct3 Try.underlying47 h
  rw [c47] at hl
  obtain ⟨v0, v1, v2, rfl⟩ := three_of hl
  simp only [c3, c9, List.drop_zero, List.drop_succ_cons, List.take_succ_cons, List.take_zero] at t0 t1 t2
  obtain ⟨k, e0, _, _⟩ := DataW.trod_int Try.underlying3 t0
  obtain ⟨n, e1, _, hw⟩ := DataW.trod_int Try.underlying3 t1
  obtain ⟨t, e2, _, ht⟩ := DataW.trod_string Try.underlying9 t2
  simp at e0 e1 e2
  subst e0; subst e1; subst e2
  refine ⟨k, n, t, rfl, ?_, ht⟩
  simp [Lit.wf, IntKind.signed, IntKind.bits, IntKind.min, IntKind.max] at hw
  omega

theorem arg_ops {A : Option Addr} {n c : Nat} {d : DataW H} {p : List MemPlace} (h : DataW.Trod enc Try.prog W 0 (fun _ => true) true 39 (.slice A n c) d p) : n ≤ maxLen ∧ ∃ os, ArgOps W A n os := by
  obtain ⟨fuel, hf⟩ := h
  rcases DataW.trod_slice Try.underlying39 hf with ⟨hcs, hx⟩ | ⟨a, len, cap, elems, rest, m, _, hcs, hx, _, hl, hm, hlen, hel, _, _⟩
  · simp [Value.cells] at hcs
    obtain ⟨rfl, rfl, rfl⟩ := hcs
    exact ⟨by simp [maxLen], fun _ => ⟨0, 0, eS⟩, fun j hj => by omega⟩
  · simp [Value.cells] at hcs
    obtain ⟨rfl, rfl, rfl⟩ := hcs
    refine ⟨by omega, ?_⟩
    have get : ∀ i, i < n → ∃ k z t, (∀ j u, [Value.int .i64 k, .int .i64 z, .string t][j]? = some u → W.cell? ((a.add (i * 3)).add j) = some u) ∧ (-9223372036854775808 ≤ z ∧ z ≤ 9223372036854775807) ∧ t.size ≤ maxLen := by
      intro i hi
      have hE := hel i hi
      rw [c47, List.getElem?_eq_getElem (by omega)] at hE
      simp only [Option.bind_eq_some_iff] at hE
      obtain ⟨cs, hc1, hy1⟩ := hE
      obtain ⟨_, hcl, hcc⟩ := World.cells?_some hc1
      obtain ⟨k, z, t, rfl, hz, ht⟩ := op_of_trod hy1
      refine ⟨k, z, t, fun j u hu => ?_, hz, ht⟩
      have hj : j < 3 := (List.getElem?_eq_some_iff.1 hu).1
      rw [hcc j hj]; exact hu
    have : ∀ j, ∃ o : OpOf, j < n → ∃ bb off, (some a : Option Addr) = some ⟨bb, off, none⟩ ∧ bb < W.heap.size ∧ W.cell? ⟨bb, off + j * 3, none⟩ = some (.int .i64 o.kind) ∧ W.cell? ⟨bb, off + j * 3 + 1, none⟩ = some (.int .i64 o.n) ∧ W.cell? ⟨bb, off + j * 3 + 2, none⟩ = some (.string o.t) ∧
        (-9223372036854775808 ≤ o.n ∧ o.n ≤ 9223372036854775807) ∧ o.t.size ≤ maxLen := by
      intro j
      by_cases hj : j < n
      · obtain ⟨k0, z0, t0, h0, _⟩ := get 0 (by omega)
        have h00 := h0 0 _ rfl
        obtain ⟨b, o, rfl, hlt⟩ : ∃ b o, a = ⟨b, o, none⟩ ∧ b < W.heap.size := by
          refine cell_plain (v := .int .i64 k0) ?_
          simpa [Addr.add] using h00
        obtain ⟨k, z, t, h1, h2, h3⟩ := get j hj
        have q0 := h1 0 _ rfl
        have q1 := h1 1 _ rfl
        have q2 := h1 2 _ rfl
        rw [Addr.add_lit, Addr.add_lit] at q0 q1 q2
        exact ⟨⟨k, z, t⟩, fun _ => ⟨b, o, rfl, hlt, q0, q1, q2, h2, h3⟩⟩
      · exact ⟨⟨0, 0, eS⟩, fun h => absurd h hj⟩
    exact ⟨fun j => Classical.choose (this j), fun j hj => Classical.choose_spec (this j) hj⟩
end

/-- Few: are there not too many, nor too long ones? -/
def few (n : Nat) (os : Nat → OpOf) : Prop := n ≤ 61 ∧ ∀ j, j < n → (os j).t.size ≤ 200

/-- What Few tells. -/
def FewPost (n : Nat) (os : Nat → OpOf) (w : World) (e : Ending) (w' : World) : Prop := ∃ b : Bool, e = .returned (.bool b) ∧ (b = true → few n os) ∧ w' = w

set_option maxRecDepth 100000 in
set_option maxHeartbeats 2000000 in
theorem few_any (w : World) (A : Option Addr) (n c : Nat) (os : Nat → OpOf) (hn : n ≤ maxLen) (hA : ArgOps w A n os) :
    Calls Try.prog 18 #[.slice A n c] w (FewPost n os w) := by
  unfold maxLen at hn
  have HA := Lib.hid hA
  clear hA
  go_enter Try.func18, Try.ntmps18
  go_wp2_with fail
  go_loopw [3] (fun i wr => ∃ k : Nat, k ≤ n ∧ k ≤ 61 ∧ i = .int .i64 k ∧ (∀ j, j < k → (os j).t.size ≤ 200) ∧ wr = w) (fun i _ => n - (intOf i).toNat)
  case atStart => exact ⟨0, by omega, by omega, rfl, fun j hj => by omega, rfl⟩
  case round =>
    obtain ⟨k, hk, h61, rfl, hall, rfl⟩ := hrel
    have HAll := Lib.hid hall
    clear hall
    by_cases hlt : k < n
    · obtain ⟨b, o, rfl, h1, h2, h3, h4, h5, h6⟩ := HA.out k hlt
      by_cases h60 : 60 < k
      · go_wp2_with fail
        go_ret
        exact ⟨false, rfl, fun h => by simp at h, rfl⟩
      · by_cases hbig : 200 < (os k).t.size
        · have HB := Lib.hid hbig
          generalize (os k).t = x at *
          go_wp2_with fail
          go_ret
          exact ⟨false, rfl, fun h => by simp at h, rfl⟩
        · have HX := Lib.hid (show (os k).t.size ≤ 200 by omega)
          generalize hx : (os k).t = x at *
          have HE := Lib.hid hx
          clear hx
          go_wp2_with fail
          refine ⟨⟨k + 1, by omega, by omega, by go_num, fun j hj => ?_, by first | rfl | trivial⟩, by simp [intOf]; omega⟩
          rcases Nat.lt_or_ge j k with h | h
          · exact HAll.out j h
          · have : j = k := by omega
            subst this; rw [HE.out]; exact HX.out
    · go_wp2_with fail
      go_ret
      exact ⟨true, rfl, fun _ => ⟨by omega, fun j hj => HAll.out j (by omega)⟩, rfl⟩
end Go.Proofs.Ytgifckledbopmaa
