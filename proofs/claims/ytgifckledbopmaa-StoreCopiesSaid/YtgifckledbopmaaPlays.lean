/- The walk of StorePlays: it returns true, old memory is as it was. -/
import Derived.Test.YtgifckledbopmaaOps
namespace Go.Proofs.Ytgifckledbopmaa
open Go.RowKit

/-- A store and the document's, of the call's own, the document's in a variable. -/
def Plays (W : World) (g b : Nat) (S : Sto) (w : World) : Prop :=
  ∃ v lv, Pair w g v lv S ∧ w.heap[b]? = some (.cells #[lv, .int .i64 S.last, .int .i64 S.fuse, .bool S.down] 42 (0, 0)) ∧ ¬ mine g v b ∧ lv.ownBlock ≠ some b ∧ W.heap.size ≤ g ∧ W.heap.size ≤ b ∧ Below W.heap.size W w ∧
    (∀ k, v.ownBlock = some k → W.heap.size ≤ k) ∧ ∀ k, lv.ownBlock = some k → W.heap.size ≤ k

/-- The state behind so many calls. -/
def playN (os : Nat → OpOf) : Nat → Sto
  | 0 => ⟨[], 0, -1, false⟩
  | k + 1 => (playN os k).step (os k).kind (os k).n (os k).t

theorem Pair.below {w w' : World} {g : Nat} {v lv : Value} {S : Sto} (h : Pair w g v lv S) (hb : Below w.heap.size w w') : Pair w' g v lv S :=
  ⟨h.store.keep (kept_below hb (fun _ => False)) (fun _ _ => id), h.ref.below hb, h.apart⟩

theorem DoAfter.form {w w' : World} {g : Nat} {v lv lv' : Value} {S' : Sto} (h : DoAfter w g v lv S' lv' w') : ∃ a c, lv' = .slice a S'.L.length c := by
  obtain ⟨_, hp, _⟩ := h
  obtain ⟨a, c, h, _⟩ := hp.ref.form
  exact ⟨a, c, h⟩
theorem DoAfter.new {w X w' : World} {g : Nat} {v lv lv' : Value} {S S' : Sto} (hp : Pair w g v lv S) (h : DoAfter X g v lv S' lv' w') : w.heap.size < X.heap.size →
    (w'.cell? ⟨w.heap.size, 0, none⟩ = X.cell? ⟨w.heap.size, 0, none⟩ ∧ w'.cell? ⟨w.heap.size, 1, none⟩ = X.cell? ⟨w.heap.size, 1, none⟩ ∧ w'.cell? ⟨w.heap.size, 2, none⟩ = X.cell? ⟨w.heap.size, 2, none⟩ ∧ w'.cell? ⟨w.heap.size, 3, none⟩ = X.cell? ⟨w.heap.size, 3, none⟩) ∧
    (w'.frozen? ⟨w.heap.size, 0, none⟩ = X.frozen? ⟨w.heap.size, 0, none⟩ ∧ w'.frozen? ⟨w.heap.size, 1, none⟩ = X.frozen? ⟨w.heap.size, 1, none⟩ ∧ w'.frozen? ⟨w.heap.size, 2, none⟩ = X.frozen? ⟨w.heap.size, 2, none⟩ ∧ w'.frozen? ⟨w.heap.size, 3, none⟩ = X.frozen? ⟨w.heap.size, 3, none⟩) := by
  intro hlt
  obtain ⟨_, _, hk, _⟩ := h
  have hb := hk.block w.heap.size hlt fun hm => by have := hp.mine_lt _ hm; omega
  have hc : ∀ j, w'.cell? ⟨w.heap.size, j, none⟩ = X.cell? ⟨w.heap.size, j, none⟩ := fun j => World.cell?_of_block (w := X) hb
  have hf : ∀ j, w'.frozen? ⟨w.heap.size, j, none⟩ = X.frozen? ⟨w.heap.size, j, none⟩ := fun j => World.frozen?_of_block (w := X) hb
  exact ⟨⟨hc 0, hc 1, hc 2, hc 3⟩, hf 0, hf 1, hf 2, hf 3⟩

theorem DoAfter.box {w X w' : World} {g b : Nat} {v lv lv' : Value} {S S' : Sto} {o : Obj} (h : DoAfter X g v lv S' lv' w') (_hp : Pair w g v lv S) (hX : Below w.heap.size w X) (hm : ¬ mine g v b) (hb : w.heap[b]? = some o) : w'.heap[b]? = some o := by
  obtain ⟨_, _, hk, _⟩ := h
  have hlt := heap_lt hb
  exact (hk.block b (Nat.lt_of_lt_of_le hlt hX.size) hm).trans ((hX.block b hlt).trans hb)

/-- As Plays, the document's array named. -/
structure PlaysAt (W : World) (g b : Nat) (v lv : Value) (S : Sto) (w : World) : Prop where
  pair : Pair w g v lv S
  box : w.heap[b]? = some (.cells #[lv, .int .i64 S.last, .int .i64 S.fuse, .bool S.down] 42 (0, 0))
  far : ¬ mine g v b
  apart : lv.ownBlock ≠ some b
  hg : W.heap.size ≤ g
  hb : W.heap.size ≤ b
  below : Below W.heap.size W w
  hv : ∀ k, v.ownBlock = some k → W.heap.size ≤ k
  hl : ∀ k, lv.ownBlock = some k → W.heap.size ≤ k
theorem PlaysAt.plays {W w : World} {g b : Nat} {v lv : Value} {S : Sto} (h : PlaysAt W g b v lv S w) : Plays W g b S w := ⟨v, lv, h.pair, h.box, h.far, h.apart, h.hg, h.hb, h.below, h.hv, h.hl⟩
theorem PlaysAt.more {W w w' : World} {g b : Nat} {v lv : Value} {S : Sto} (h : PlaysAt W g b v lv S w) (hb : Below w.heap.size w w') : PlaysAt W g b v lv S w' :=
  ⟨h.pair.below hb, (hb.block b (heap_lt h.box)).trans h.box, h.far, h.apart, h.hg, h.hb, h.below.trans (hb.mono h.below.size), h.hv, h.hl⟩

theorem plays_next {W wr X w5 F : World} {g b : Nat} {v lv lv' : Value} {S S' : Sto} (h : PlaysAt W g b v lv S wr) (hX : Below wr.heap.size wr X) (hd : DoAfter X g v lv S' lv' w5)
    (hF : Kept (fun k => k = b ∨ wr.heap.size ≤ k ∧ k < X.heap.size ∨ w5.heap.size ≤ k) w5 F)
    (hbox : F.heap[b]? = some (.cells #[lv', .int .i64 S'.last, .int .i64 S'.fuse, .bool S'.down] 42 (0, 0))) : ∃ v', PlaysAt W g b v' lv' S' F := by
  obtain ⟨v', hp, hk, hv', hl'⟩ := hd
  have hbl := heap_lt h.box
  have s0 := h.below.size
  have s1 := hX.size
  have s2 := hk.size
  have hvl := h.pair.store.row.lt
  have hll := h.pair.ref.row.lt
  have hgl := h.pair.store.lt
  have nv : ∀ k, v'.ownBlock = some k → k ≠ b ∧ ¬ (wr.heap.size ≤ k ∧ k < X.heap.size) ∧ k < w5.heap.size ∧ W.heap.size ≤ k := by
    intro k hk1
    have := hp.store.row.lt k hk1
    rcases hv' k hk1 with hx | hx
    · have h2 := hvl k hx
      exact ⟨fun e => h.far (.inr (e ▸ hx)), by omega, this, h.hv k hx⟩
    · exact ⟨by omega, by omega, this, by omega⟩
  have nl : ∀ k, lv'.ownBlock = some k → k ≠ b ∧ ¬ (wr.heap.size ≤ k ∧ k < X.heap.size) ∧ k < w5.heap.size ∧ W.heap.size ≤ k := by
    intro k hk1
    have := hp.ref.row.lt k hk1
    rcases hl' k hk1 with hx | hx
    · have h2 := hll k hx
      exact ⟨fun e => h.apart (e ▸ hx), by omega, this, h.hl k hx⟩
    · exact ⟨by omega, by omega, this, by omega⟩
  have gb : g ≠ b := fun e => h.far (.inl e.symm)
  refine ⟨v', ⟨hp.store.keep hF ?_, ⟨hp.ref.row.keep fun k hk1 => hF.block k (nl k hk1).2.2.1 ?_, hp.ref.len, hp.ref.le, hp.ref.fuse⟩, hp.apart⟩, hbox, ?_, fun e => (nl b e).1 rfl, h.hg, h.hb, ?_, fun k hk => (nv k hk).2.2.2, fun k hk => (nl k hk).2.2.2⟩
  · rintro k (rfl | hk1) hx
    · rcases hx with hx | hx | hx
      · exact gb hx
      · omega
      · omega
    · have := nv k hk1
      rcases hx with hx | hx | hx
      · exact this.1 hx
      · exact this.2.1 hx
      · omega
  · have := nl k hk1
    rintro (hx | hx | hx)
    · exact this.1 hx
    · exact this.2.1 hx
    · omega
  · rintro (hx | hx)
    · exact gb hx.symm
    · exact (nv b hx).1 rfl
  · have hg := h.hg
    have hb := h.hb
    have hv := h.hv
    refine h.below.trans ⟨hF.os.trans (hk.os.trans hX.os), hF.tape.trans (hk.tape.trans hX.tape), hF.output.trans (hk.output.trans hX.output), by have := hF.size; omega, fun k hk1 => ?_⟩
    rw [hF.block k (by omega) (by omega), hk.block k (by omega) ?_, hX.block k (by omega)]
    rintro (hx | hx)
    · omega
    · have := hv k hx; omega

theorem box4 {w : World} {b : Nat} {x0 x1 x2 x3 y0 y1 y2 y3 : Value} {t : TypeId} (h : w.heap[b]? = some (.cells #[x0, x1, x2, x3] t (0, 0))) :
    ((((w.setCell ⟨b, 0, none⟩ y0).setCell ⟨b, 1, none⟩ y1).setCell ⟨b, 2, none⟩ y2).setCell ⟨b, 3, none⟩ y3).heap[b]? = some (.cells #[y0, y1, y2, y3] t (0, 0)) :=
  set_block (set_block (set_block (set_block h 0 _) 1 _) 2 _) 3 _
theorem alike_next {W wr X w5 F : World} {g b : Nat} {v lv lv' : Value} {S S' : Sto} (h : PlaysAt W g b v lv S wr) (hX : Below wr.heap.size wr X) (hd : DoAfter X g v lv S' lv' w5)
    (hF : Kept (fun k => k = b ∨ wr.heap.size ≤ k ∧ k < X.heap.size ∨ w5.heap.size ≤ k) w5 F)
    (hbox : F.heap[b]? = some (.cells #[lv', .int .i64 S'.last, .int .i64 S'.fuse, .bool S'.down] 42 (0, 0))) :
    Calls Try.prog 21 #[.pointer (some ⟨g, 0, none⟩), refV lv' S'] F fun e w' => e = .returned (.bool true) ∧ Plays W g b S' w' := by
  obtain ⟨v', hp⟩ := plays_next h hX hd hF hbox
  refine (alike_any F g v' lv' S' hp.pair.store hp.pair.ref).mono ?_
  rintro e w' ⟨rfl, hb⟩
  exact ⟨rfl, (hp.more hb).plays⟩

set_option maxRecDepth 100000 in
set_option maxHeartbeats 4000000 in
theorem plays_any (A : Option Addr) (n c : Nat) (os : Nat → OpOf) (W : World) (hn : n ≤ maxLen) (hA : ArgOps W A n os) :
    Calls Try.prog 6 #[.slice A n c] W fun e w' => e = .returned (.bool true) ∧ Below W.heap.size W w' := by
  have HA := Lib.hid hA
  have HN := Lib.hid hn
  unfold maxLen at hn
  clear hA
  go_enter Try.func6, Try.ntmps6
  go_wp2_with fail
  refine (awake_any _).mono ?_
  rintro e w1 ⟨rfl, hb⟩
  have HB1 := Lib.hid hb
  have HA1 : Hid (ArgOps w1 A n os) := fun j hj => by
    obtain ⟨b, o, h1, h2, h3, h4, h5, h6⟩ := HA.out j hj
    exact ⟨b, o, h1, Nat.lt_of_lt_of_le h2 HB1.out.size, (HB1.out.cell (p := ⟨b, o + j * 3, none⟩) h2).trans h3, (HB1.out.cell (p := ⟨b, o + j * 3 + 1, none⟩) h2).trans h4, (HB1.out.cell (p := ⟨b, o + j * 3 + 2, none⟩) h2).trans h5, h6⟩
  clear hb
  go_wp2_with fail
  refine (few_any _ A n c os HN.out HA1.out).mono ?_
  rintro e w2 ⟨bb, rfl, hfew, rfl⟩
  clear hfew
  cases bb with
  | false =>
    go_wp2_with fail
    go_ret
    exact ⟨rfl, HB1.out⟩
  | true =>
    go_wp2_with fail
    refine (new_any _).mono ?_
    rintro e w2 ⟨g, rfl, hg, hs, hb2⟩
    have HB2 := Lib.hid hb2
    have HS2 := Lib.hid hs
    clear hb2 hs
    have hp := fun W => ptr_nil W g
    go_wp2_with fail
    refine (rnew_any _).mono ?_
    rintro e w3 ⟨rfl, hb3, hr3⟩
    have HB3 := Lib.hid hb3
    have HR3 := Lib.hid hr3
    clear hb3 hr3
    have HP : Hid (Plays W g w3.heap.size (playN os 0) (w3.alloc (.cells #[.slice none 0 0, .int .i64 0, .int .i64 (-1), .bool false] 42))) := by
      have s1 := HB1.out.size
      have s2 := HB2.out.size
      have s3 := HB3.out.size
      have gl := HS2.out.lt
      refine ⟨.slice none 0 0, .slice none 0 0, ⟨(HS2.out.keep (kept_below HB3.out (fun _ => False)) (fun _ _ => id)).alloc _, HR3.out.below (by (repeat (first | exact Below.refl _ _ | assumption | refine Below.drew ?_ | refine below_drewN ?_ _ | refine Below.alloc ?_ (by (try simp); try omega) _ | refine Below.setCell ?_ (by (try simp); try omega) _))), fun k hk => by simp [Value.ownBlock] at hk⟩, at_top rfl, ?_, by simp [Value.ownBlock], by omega, by omega, ?_, fun k hk => by simp [Value.ownBlock] at hk, fun k hk => by simp [Value.ownBlock] at hk⟩
      · rintro (h | h)
        · omega
        · simp [Value.ownBlock] at h
      · exact ((HB1.out.trans (HB2.out.mono s1)).trans (HB3.out.mono (by omega))).alloc (by omega) _
    go_wp2_with fail
    generalize hV : w3.heap.size = b4 at *
    go_loopw [5] (fun i wr => ∃ k : Nat, k ≤ n ∧ i = .int .i64 k ∧ Plays W g b4 (playN os k) wr) (fun i _ => n - (intOf i).toNat)
    case atStart => exact ⟨0, by omega, rfl, HP.out⟩
    case round =>
      obtain ⟨k, hk, rfl, hpl⟩ := hrel
      clear HP HS2 HR3 HB2 HB3
      by_cases hlt : k < n
      · have hlt' : (k : Int) < (n : Int) := by omega
        obtain ⟨v, lv, h1, h2, h3, h4, h5, h6, h7, h8, h9⟩ := id hpl
        obtain ⟨b, o, rfl, q1, q2, q3, q4, q5, q6⟩ := HA.out k hlt
        have e2 := (h7.cell (p := ⟨b, o + k * 3, none⟩) q1).trans q2
        have e3 := (h7.cell (p := ⟨b, o + k * 3 + 1, none⟩) q1).trans q3
        have e4 := (h7.cell (p := ⟨b, o + k * 3 + 2, none⟩) q1).trans q4
        obtain ⟨d0, d1, d2, d3, d4⟩ := blk4' h2
        have hbl : b < wr.heap.size := Nat.lt_of_lt_of_le q1 h7.size
        have hb4 : b4 < wr.heap.size := heap_lt h2
        have H1 := Lib.hid h1
        have H2 := Lib.hid h2
        have H3 := Lib.hid h3
        have H4 := Lib.hid h4
        have H7 := Lib.hid h7
        have H8 := Lib.hid h8
        have H9 := Lib.hid h9
        have Q5 := Lib.hid q5
        have Q6 := Lib.hid q6
        have hS : (playN os (k + 1)) = (playN os k).step (os k).kind (os k).n (os k).t := rfl
        have DC := Lib.hid (fun w hp => do_any w g v lv (playN os k) (os k).kind (os k).n (os k).t Q5.out Q6.out hp)
        rw [← hS] at DC
        clear h1 h2 h3 h4 h7 h8 h9 q2 q3 q4 q5 q6 hpl hS hlt Q5 Q6
        generalize (os k).kind = kd at *
        generalize (os k).n = nn at *
        generalize (os k).t = tx at *
        generalize hS' : playN os (k + 1) = S' at *
        have HS' := Lib.hid hS'
        have HPA : Hid (PlaysAt W g b4 v lv (playN os k) wr) := ⟨H1.out, H2.out, H3.out, H4.out, h5, h6, H7.out, H8.out, H9.out⟩
        clear hS'
        generalize playN os k = S at *
        go_wp2_with fail
        go_region_with (go_at_call 20; refine (DC.out _ (H1.out.below (by (repeat (first | exact Below.refl _ _ | assumption | refine Below.drew ?_ | refine below_drewN ?_ _ | refine Below.alloc ?_ (by (try simp); try omega) _ | refine Below.setCell ?_ (by (try simp); try omega) _))))).mono ?_; rintro e w5 ⟨lv', rfl, hd⟩; obtain ⟨a', c', hlv⟩ := hd.form; subst hlv; have HD := Lib.hid hd; clear hd; have HY := Lib.hid (HD.out.box H1.out (by (repeat (first | exact Below.refl _ _ | assumption | refine Below.drew ?_ | refine below_drewN ?_ _ | refine Below.alloc ?_ (by (try simp); try omega) _ | refine Below.setCell ?_ (by (try simp); try omega) _))) H3.out H2.out); have hb5 := heap_lt HY.out; obtain ⟨y0, y1, y2, y3, y4⟩ := blk4' HY.out; have z0 := fun hlt => (HD.out.new H1.out hlt).1.1; simp at z0; have z1 := fun hlt => (HD.out.new H1.out hlt).1.2.1; simp at z1; have z2 := fun hlt => (HD.out.new H1.out hlt).1.2.2.1; simp at z2; have z3 := fun hlt => (HD.out.new H1.out hlt).1.2.2.2; simp at z3; have z4 := fun hlt => (HD.out.new H1.out hlt).2.1; simp at z4; have z5 := fun hlt => (HD.out.new H1.out hlt).2.2.1; simp at z5; have z6 := fun hlt => (HD.out.new H1.out hlt).2.2.2.1; simp at z6; have z7 := fun hlt => (HD.out.new H1.out hlt).2.2.2.2; simp at z7)
        all_goals (go_wp2_with fail)
        all_goals (
          refine (alike_next HPA.out (by (repeat (first | exact Below.refl _ _ | assumption | refine Below.drew ?_ | refine below_drewN ?_ _ | refine Below.alloc ?_ (by (try simp); try omega) _ | refine Below.setCell ?_ (by (try simp); try omega) _))) HD.out ?hF ?hbox).mono ?post
          case hF => (repeat (first | (with_reducible refine Kept.setCell ?_ (by (try simp); try omega) _) | (with_reducible refine Kept.alloc ?_ _) | (with_reducible refine Kept.drew ?_) | (with_reducible exact Kept.refl _ _)))
          case hbox => first
            | (with_reducible refine (Below.heap_alloc _ _ _ (by simpa using hb5)).trans ?_
               exact box4 HY.out)
            | (with_reducible refine box4 (x0 := lv) (x1 := .int .i64 S.last) (x2 := .int .i64 S.fuse) (x3 := .bool S.down) ?_
               exact (Below.heap_setCell _ _ _ _ (by simp; omega)).trans ((Below.heap_setCell _ _ _ _ (by simp; omega)).trans ((Below.heap_setCell _ _ _ _ (by simp; omega)).trans ((Below.heap_setCell _ _ _ _ (by simp; omega)).trans HY.out))))
          case post =>
             rintro e w6 ⟨rfl, hpl⟩
             go_wp2_with fail
             exact ⟨⟨k + 1, by omega, by go_num, by rw [HS'.out]; exact hpl⟩, by simp [intOf]; omega⟩)
      · go_wp2_with fail
        go_ret
        obtain ⟨_, _, _, _, _, _, _, _, hb, _⟩ := hpl
        exact ⟨rfl, hb⟩
end Go.Proofs.Ytgifckledbopmaa
