/- The walk of StoreCopies: it returns true, old memory is as it was. -/
import Derived.Test.YtgifckledbopmaaDuo
namespace Go.Proofs.Ytgifckledbopmaa
open Go.RowKit

/-- The state behind so many calls from a state on. -/
def playF (S : Sto) (os : Nat → OpOf) : Nat → Sto
  | 0 => S
  | k + 1 => (playF S os k).step (os k).kind (os k).n (os k).t

theorem alike_at {W w : World} {g b : Nat} {v lv : Value} {S : Sto} (h : PlaysAt W g b v lv S w) : Calls Try.prog 21 #[.pointer (some ⟨g, 0, none⟩), refV lv S] w fun e w' => e = .returned (.bool true) ∧ Below w.heap.size w w' :=
  alike_any w g v lv S h.pair.store h.pair.ref

theorem duo_alike {W wr X w5 F : World} {g b c e : Nat} {v lv u lu lv' : Value} {S T S' : Sto} (h : DuoAt W g b v lv S c e u lu T wr) (hX : Below wr.heap.size wr X) (hd : DoAfter X g v lv S' lv' w5)
    (hF : Kept (fun k => k = b ∨ wr.heap.size ≤ k ∧ k < X.heap.size ∨ w5.heap.size ≤ k) w5 F)
    (hbox : F.heap[b]? = some (.cells #[lv', .int .i64 S'.last, .int .i64 S'.fuse, .bool S'.down] 42 (0, 0))) :
    Calls Try.prog 21 #[.pointer (some ⟨g, 0, none⟩), refV lv' S'] F fun en w' => en = .returned (.bool true) ∧ ∃ v', DuoAt W g b v' lv' S' c e u lu T w' := by
  obtain ⟨v', hp⟩ := duo_next h hX hd hF hbox
  refine (alike_at hp.one).mono ?_
  rintro en w' ⟨rfl, hb⟩
  exact ⟨rfl, v', hp.more hb⟩

theorem plays_nextP {W wr X w5 F : World} {g b : Nat} {v lv lv' : Value} {S S' : Sto} (h : PlaysAt W g b v lv S wr) (hX : Below wr.heap.size wr X) (hd : DoAfter X g v lv S' lv' w5)
    (hF : Kept (fun k => k = b ∨ wr.heap.size ≤ k ∧ k < X.heap.size ∨ w5.heap.size ≤ k) w5 F)
    (hbox : F.heap[b]? = some (.cells #[lv', .int .i64 S'.last, .int .i64 S'.fuse, .bool S'.down] 42 (0, 0))) : Plays W g b S' F := by
  obtain ⟨v', hp⟩ := plays_next h hX hd hF hbox
  exact hp.plays

theorem duo_start {W wr w4 w5 : World} {g b c : Nat} {v lv u : Value} {S : Sto} (h : PlaysAt W g b v lv S wr) (hb4 : Below wr.heap.size wr w4) (hc : wr.heap.size ≤ c) (hs : StoreAt w4 c u S) (hu : ∀ k, u.ownBlock = some k → wr.heap.size ≤ k) (hb5 : Below w4.heap.size w4 w5) :
    Duo W g b S c w5.heap.size S (w5.alloc (.cells #[lv, .int .i64 S.last, .int .i64 S.fuse, .bool S.down] 42)) := by
  have s4 := hb4.size
  have s5 := hb5.size
  have hcl := hs.lt
  have hul := hs.row.lt
  have h5 : Below wr.heap.size wr (w5.alloc (.cells #[lv, .int .i64 S.last, .int .i64 S.fuse, .bool S.down] 42)) := (hb4.trans (hb5.mono s4)).alloc (by omega) _
  have hml := h.pair.mine_lt
  have hll := h.pair.ref.row.lt
  have hbl := heap_lt h.box
  have hsz := h.below.size
  have hone := h.more h5
  refine ⟨v, lv, u, lv, hone, ⟨⟨(hs.keep (kept_below hb5 (fun _ => False)) (fun _ _ => id)).alloc _, hone.pair.ref, ?_⟩, at_top rfl, ?_, ?_, by omega, by omega, hone.below, fun k hk => Nat.le_trans hsz (hu k hk), h.hl⟩, ?_, ?_⟩
  · intro k hk hm
    have := hll k hk
    rcases hm with rfl | hm
    · omega
    · have := hu k hm; omega
  · rintro (hm | hm)
    · omega
    · have := hul _ hm; omega
  · intro e
    have := hll _ e; omega
  · rintro k h1 h2
    have hlt : k < wr.heap.size := by
      rcases h1 with h1 | rfl
      · exact hml k h1
      · exact hbl
    rcases h2 with (h2 | h2) | h2 | h2
    · omega
    · have := hu k h2; omega
    · omega
    · rcases h1 with h1 | rfl
      · exact h.pair.apart k h2 h1
      · exact h.apart h2
  · rintro k h1 h2
    have hge : wr.heap.size ≤ k := by
      rcases h1 with (rfl | h1) | rfl
      · exact hc
      · exact hu k h1
      · omega
    rcases h2 with h2 | rfl | h2
    · have := hml k h2; omega
    · omega
    · have := hll k h2; omega

/-- The beginning of a walk: what the call lays. -/
theorem plays_start {W w2 w3 : World} {g : Nat} (hb2 : Below W.heap.size W w2) (hg : W.heap.size ≤ g) (hs : StoreAt w2 g (.slice none 0 0) ⟨[], 0, -1, false⟩) (hb3 : Below w2.heap.size w2 w3) (hr3 : RefAt w3 (.slice none 0 0) ⟨[], 0, -1, false⟩) :
    Plays W g w3.heap.size ⟨[], 0, -1, false⟩ (w3.alloc (.cells #[.slice none 0 0, .int .i64 0, .int .i64 (-1), .bool false] 42)) := by
  have s2 := hb2.size
  have s3 := hb3.size
  have gl := hs.lt
  refine ⟨.slice none 0 0, .slice none 0 0, ⟨(hs.keep (kept_below hb3 (fun _ => False)) (fun _ _ => id)).alloc _, hr3.below ((Below.refl _ _).alloc (Nat.le_refl _) _), fun k hk => by simp [Value.ownBlock] at hk⟩, at_top rfl, ?_, by simp [Value.ownBlock], by omega, by omega, ?_, fun k hk => by simp [Value.ownBlock] at hk, fun k hk => by simp [Value.ownBlock] at hk⟩
  · rintro (h | h)
    · omega
    · simp [Value.ownBlock] at h
  · exact (hb2.trans (hb3.mono s2)).alloc (by omega) _

set_option maxRecDepth 100000 in
set_option maxHeartbeats 8000000 in
theorem copies_any (A B : Option Addr) (n c0 m c1 : Nat) (os ms : Nat → OpOf) (W : World) (hn : n ≤ maxLen) (hm : m ≤ maxLen) (hA : ArgOps W A n os) (hB : ArgOps W B m ms) :
    Calls Try.prog 9 #[.slice A n c0, .slice B m c1] W fun e w' => e = .returned (.bool true) ∧ Below W.heap.size W w' := by
  have HA := Lib.hid hA
  have HM := Lib.hid hB
  have HN := Lib.hid hn
  have HN2 := Lib.hid hm
  unfold maxLen at hn hm
  clear hA hB
  go_enter Try.func9, Try.ntmps9
  go_wp2_with fail
  refine (awake_any _).mono ?_
  rintro e w1 ⟨rfl, hb⟩
  have HB1 := Lib.hid hb
  have HA1 : Hid (ArgOps w1 A n os) := fun j hj => by
    obtain ⟨b, o, h1, h2, h3, h4, h5, h6⟩ := HA.out j hj
    exact ⟨b, o, h1, Nat.lt_of_lt_of_le h2 HB1.out.size, (HB1.out.cell (p := ⟨b, o + j * 3, none⟩) h2).trans h3, (HB1.out.cell (p := ⟨b, o + j * 3 + 1, none⟩) h2).trans h4, (HB1.out.cell (p := ⟨b, o + j * 3 + 2, none⟩) h2).trans h5, h6⟩
  have HM1 : Hid (ArgOps w1 B m ms) := fun j hj => by
    obtain ⟨b, o, h1, h2, h3, h4, h5, h6⟩ := HM.out j hj
    exact ⟨b, o, h1, Nat.lt_of_lt_of_le h2 HB1.out.size, (HB1.out.cell (p := ⟨b, o + j * 3, none⟩) h2).trans h3, (HB1.out.cell (p := ⟨b, o + j * 3 + 1, none⟩) h2).trans h4, (HB1.out.cell (p := ⟨b, o + j * 3 + 2, none⟩) h2).trans h5, h6⟩
  clear hb
  go_wp2_with fail
  with_reducible refine (few_any _ A n c0 os HN.out HA1.out).mono ?_
  rintro e w2 ⟨bb, rfl, hfew, rfl⟩
  clear hfew
  cases bb with
  | false =>
    go_wp2_with fail
    go_ret
    exact ⟨rfl, HB1.out⟩
  | true =>
    go_wp2_with fail
    with_reducible refine (few_any _ B m c1 ms HN2.out HM1.out).mono ?_
    rintro e w2 ⟨bb, rfl, hfew, rfl⟩
    clear hfew
    cases bb with
    | false =>
      go_wp2_with fail
      go_ret
      exact ⟨rfl, HB1.out⟩
    | true =>
      go_wp2_with fail
      refine (new_any _).mono ?_
      rintro e w2 ⟨g, rfl, hg, hs, hb2⟩
      have HB2 := Lib.hid (HB1.out.trans (hb2.mono HB1.out.size))
      have HG := Lib.hid (Nat.le_trans HB1.out.size hg)
      have HS2 := Lib.hid hs
      clear hb2 hs hg
      have hp := fun W => ptr_nil W g
      go_wp2_with fail
      refine (rnew_any _).mono ?_
      rintro e w3 ⟨rfl, hb3, hr3⟩
      have HP := Lib.hid (plays_start HB2.out HG.out HS2.out hb3 hr3)
      clear hb3 hr3 HB1 HA1 HM1 HB2 HS2 HG
      go_wp2_with fail
      generalize hV : w3.heap.size = b4 at *
      clear hV
      go_loopw [7] (fun i wr => ∃ k : Nat, k ≤ n ∧ i = .int .i64 k ∧ Plays W g b4 (playF ⟨[], 0, -1, false⟩ os k) wr) (fun i _ => n - (intOf i).toNat)
      case atStart => exact ⟨0, by omega, rfl, HP.out⟩
      case round =>
        obtain ⟨k, hk, rfl, hpl⟩ := hrel
        clear HP
        by_cases hlt : k < n
        · have hlt' : (k : Int) < (n : Int) := by omega
          obtain ⟨v, lv, h1, h2, h3, h4, h5, h6, h7, h8, h9⟩ := hpl
          have HPA : Hid (PlaysAt W g b4 v lv (playF ⟨[], 0, -1, false⟩ os k) wr) := ⟨h1, h2, h3, h4, h5, h6, h7, h8, h9⟩
          clear h1 h2 h3 h4 h5 h6 h7 h8 h9
          obtain ⟨d0, d1, d2, d3, d4⟩ := blk4' HPA.out.box
          have hb4 : b4 < wr.heap.size := heap_lt HPA.out.box
          obtain ⟨b, o, hAe, q1, q2, q3, q4, q5, q6⟩ := HA.out (k) (by omega)
          have hbel := HPA.out.below
          have e2 := (hbel.cell (p := ⟨b, o + (k) * 3, none⟩) q1).trans q2
          have e3 := (hbel.cell (p := ⟨b, o + (k) * 3 + 1, none⟩) q1).trans q3
          have e4 := (hbel.cell (p := ⟨b, o + (k) * 3 + 2, none⟩) q1).trans q4
          have hbl : b < wr.heap.size := Nat.lt_of_lt_of_le q1 hbel.size
          have Q5 := Lib.hid q5
          have Q6 := Lib.hid q6
          subst hAe
          clear hbel q2 q3 q4 q5 q6
          have DC := Lib.hid (fun w hp => do_any w g v lv (playF ⟨[], 0, -1, false⟩ os k) (os k).kind (os k).n (os k).t Q5.out Q6.out hp)
          rw [show (playF ⟨[], 0, -1, false⟩ os k).step (os k).kind (os k).n (os k).t = playF ⟨[], 0, -1, false⟩ os (k + 1) from rfl] at DC
          clear hlt Q5 Q6
          generalize (os k).kind = kd at *
          generalize (os k).n = nn at *
          generalize (os k).t = tx at *
          generalize hS' : playF ⟨[], 0, -1, false⟩ os (k + 1) = S' at *
          have HS' := Lib.hid hS'
          clear hS'
          generalize playF ⟨[], 0, -1, false⟩ os k = S at *
          go_wp2_with fail
          go_region_with (go_at_call 20; refine (DC.out _ (HPA.out.pair.below (by (repeat (first | exact Below.refl _ _ | assumption | refine Below.drew ?_ | refine below_drewN ?_ _ | refine Below.alloc ?_ (by (try simp); try omega) _ | refine Below.setCell ?_ (by (try simp); try omega) _))))).mono ?_; rintro e w5 ⟨lv', rfl, hd⟩; obtain ⟨a', c', hlv⟩ := hd.form; subst hlv; have HD := Lib.hid hd; clear hd; have HY := Lib.hid (HD.out.box HPA.out.pair (by (repeat (first | exact Below.refl _ _ | assumption | refine Below.drew ?_ | refine below_drewN ?_ _ | refine Below.alloc ?_ (by (try simp); try omega) _ | refine Below.setCell ?_ (by (try simp); try omega) _))) HPA.out.far HPA.out.box); have hb5 := heap_lt HY.out; obtain ⟨y0, y1, y2, y3, y4⟩ := blk4' HY.out; have z0 := fun hlt => (HD.out.new HPA.out.pair hlt).1.1; simp at z0; have z1 := fun hlt => (HD.out.new HPA.out.pair hlt).1.2.1; simp at z1; have z2 := fun hlt => (HD.out.new HPA.out.pair hlt).1.2.2.1; simp at z2; have z3 := fun hlt => (HD.out.new HPA.out.pair hlt).1.2.2.2; simp at z3; have z4 := fun hlt => (HD.out.new HPA.out.pair hlt).2.1; simp at z4; have z5 := fun hlt => (HD.out.new HPA.out.pair hlt).2.2.1; simp at z5; have z6 := fun hlt => (HD.out.new HPA.out.pair hlt).2.2.2.1; simp at z6; have z7 := fun hlt => (HD.out.new HPA.out.pair hlt).2.2.2.2; simp at z7)
          all_goals (go_wp2_with fail)
          all_goals (
            refine ⟨⟨k + 1, by omega, by go_num, ?_⟩, by simp [intOf]; omega⟩
            rw [HS'.out]
            refine plays_nextP HPA.out (by (repeat (first | exact Below.refl _ _ | assumption | refine Below.drew ?_ | refine below_drewN ?_ _ | refine Below.alloc ?_ (by (try simp); try omega) _ | refine Below.setCell ?_ (by (try simp); try omega) _))) HD.out ?hF ?hbox
            case hF => (repeat (first | (with_reducible refine Kept.setCell ?_ (by (try simp); try omega) _) | (with_reducible refine Kept.alloc ?_ _) | (with_reducible refine Kept.drew ?_) | (with_reducible exact Kept.refl _ _)))
            case hbox => exact box4 HY.out)
        · have hkn : ¬ (k : Int) < (n : Int) := by omega
          have hke : k = n := by omega
          rw [hke] at hpl
          clear hlt hk hke
          generalize playF ⟨[], 0, -1, false⟩ os n = S at *
          obtain ⟨v, lv, h1, h2, h3, h4, h5, h6, h7, h8, h9⟩ := hpl
          have HPA : Hid (PlaysAt W g b4 v lv S wr) := ⟨h1, h2, h3, h4, h5, h6, h7, h8, h9⟩
          clear h1 h2 h3 h4 h5 h6 h7 h8 h9
          go_wp2_with fail
          refine (copy_any _ g v S HPA.out.pair.store).mono ?_
          rintro e w4 ⟨c, u, rfl, hb, hcg, hsc, hu⟩
          have hpc := fun W => ptr_nil W c
          obtain ⟨d0, d1, d2, d3, d4⟩ := blk4' (HPA.out.more hb).box
          have HB4 := Lib.hid hb
          have HCG := Lib.hid hcg
          have HSC := Lib.hid hsc
          have HU := Lib.hid hu
          clear hb hcg hsc hu
          go_wp2_with fail
          refine (alike_any _ c u lv S HSC.out (HPA.out.more HB4.out).pair.ref).mono ?_
          rintro e w5 ⟨rfl, hb5⟩
          have HDU0 := Lib.hid (duo_start HPA.out HB4.out HCG.out HSC.out HU.out hb5)
          obtain ⟨d0, d1, d2, d3, d4⟩ := blk4' ((HPA.out.more HB4.out).more hb5).box
          have HB5 := Lib.hid hb5
          clear hb5
          obtain ⟨la, lc, hlv, _⟩ := HPA.out.pair.ref.form
          subst hlv
          go_wp2_with fail
          clear d0 d1 d2 d3 d4 HB4 HCG HSC HU HB5 HPA
          generalize w5.heap.size = b9 at *
          go_loopw [10] (fun i wr => ∃ k : Nat, k ≤ m ∧ i = .int .i64 k ∧ Duo W g b4 S c b9 (playF S ms k) wr) (fun i _ => m - (intOf i).toNat)
          case atStart => exact ⟨0, by omega, rfl, HDU0.out⟩
          case round =>
            obtain ⟨k, hk, rfl, hduo⟩ := hrel
            clear HDU0
            by_cases hlt : k < m
            · have hlt' : (k : Int) < (m : Int) := by omega
              obtain ⟨v, lv, u, lu, hdu⟩ := hduo.swap
              have HDU := Lib.hid hdu
              clear hdu hduo
              obtain ⟨d0, d1, d2, d3, d4⟩ := blk4' HDU.out.one.box
              have hb4 : b9 < wr.heap.size := heap_lt HDU.out.one.box
              obtain ⟨b, o, hAe, q1, q2, q3, q4, q5, q6⟩ := HM.out (k) (by omega)
              have hbel := HDU.out.one.below
              have e2 := (hbel.cell (p := ⟨b, o + (k) * 3, none⟩) q1).trans q2
              have e3 := (hbel.cell (p := ⟨b, o + (k) * 3 + 1, none⟩) q1).trans q3
              have e4 := (hbel.cell (p := ⟨b, o + (k) * 3 + 2, none⟩) q1).trans q4
              have hbl : b < wr.heap.size := Nat.lt_of_lt_of_le q1 hbel.size
              have Q5 := Lib.hid q5
              have Q6 := Lib.hid q6
              subst hAe
              clear hbel q2 q3 q4 q5 q6
              have DC := Lib.hid (fun w hp => do_any w c v lv (playF S ms k) (ms k).kind (ms k).n (ms k).t Q5.out Q6.out hp)
              rw [show (playF S ms k).step (ms k).kind (ms k).n (ms k).t = playF S ms (k + 1) from rfl] at DC
              clear hlt Q5 Q6
              generalize (ms k).kind = kd at *
              generalize (ms k).n = nn at *
              generalize (ms k).t = tx at *
              generalize hS' : playF S ms (k + 1) = S' at *
              have HS' := Lib.hid hS'
              clear hS'
              generalize playF S ms k = T at *
              go_wp2_with fail
              go_region_with (go_at_call 20; refine (DC.out _ (HDU.out.one.pair.below (by (repeat (first | exact Below.refl _ _ | assumption | refine Below.drew ?_ | refine below_drewN ?_ _ | refine Below.alloc ?_ (by (try simp); try omega) _ | refine Below.setCell ?_ (by (try simp); try omega) _))))).mono ?_; rintro e w5 ⟨lv', rfl, hd⟩; obtain ⟨a', c', hlv⟩ := hd.form; subst hlv; have HD := Lib.hid hd; clear hd; have HY := Lib.hid (HD.out.box HDU.out.one.pair (by (repeat (first | exact Below.refl _ _ | assumption | refine Below.drew ?_ | refine below_drewN ?_ _ | refine Below.alloc ?_ (by (try simp); try omega) _ | refine Below.setCell ?_ (by (try simp); try omega) _))) HDU.out.one.far HDU.out.one.box); have hb5 := heap_lt HY.out; obtain ⟨y0, y1, y2, y3, y4⟩ := blk4' HY.out; have z0 := fun hlt => (HD.out.new HDU.out.one.pair hlt).1.1; simp at z0; have z1 := fun hlt => (HD.out.new HDU.out.one.pair hlt).1.2.1; simp at z1; have z2 := fun hlt => (HD.out.new HDU.out.one.pair hlt).1.2.2.1; simp at z2; have z3 := fun hlt => (HD.out.new HDU.out.one.pair hlt).1.2.2.2; simp at z3; have z4 := fun hlt => (HD.out.new HDU.out.one.pair hlt).2.1; simp at z4; have z5 := fun hlt => (HD.out.new HDU.out.one.pair hlt).2.2.1; simp at z5; have z6 := fun hlt => (HD.out.new HDU.out.one.pair hlt).2.2.2.1; simp at z6; have z7 := fun hlt => (HD.out.new HDU.out.one.pair hlt).2.2.2.2; simp at z7)
              all_goals (go_wp2_with fail)
              all_goals (
                refine (duo_alike HDU.out (by (repeat (first | exact Below.refl _ _ | assumption | refine Below.drew ?_ | refine below_drewN ?_ _ | refine Below.alloc ?_ (by (try simp); try omega) _ | refine Below.setCell ?_ (by (try simp); try omega) _))) HD.out ?hF ?hbox).mono ?post
                case hF => (repeat (first | (with_reducible refine Kept.setCell ?_ (by (try simp); try omega) _) | (with_reducible refine Kept.alloc ?_ _) | (with_reducible refine Kept.drew ?_) | (with_reducible exact Kept.refl _ _)))
                case hbox => first
                  | (with_reducible refine (Below.heap_alloc _ _ _ (by simpa using hb5)).trans ?_
                     exact box4 HY.out)
                  | (with_reducible refine box4 (x0 := lv) (x1 := .int .i64 T.last) (x2 := .int .i64 T.fuse) (x3 := .bool T.down) ?_
                     exact (Below.heap_setCell _ _ _ _ (by simp; omega)).trans ((Below.heap_setCell _ _ _ _ (by simp; omega)).trans ((Below.heap_setCell _ _ _ _ (by simp; omega)).trans ((Below.heap_setCell _ _ _ _ (by simp; omega)).trans HY.out))))
                case post =>
                  rintro e w6 ⟨rfl, v', hd6⟩
                  obtain ⟨d0, d1, d2, d3, d4⟩ := blk4' hd6.two.box
                  have HD6 := Lib.hid hd6
                  clear hd6
                  go_wp2_with fail
                  refine (alike_at HD6.out.two).mono ?_
                  rintro e w7 ⟨rfl, hb7⟩
                  have HD7 := Lib.hid (HD6.out.more hb7)
                  clear hb7
                  go_wp2_with fail
                  exact ⟨⟨k + 1, by omega, by go_num, by rw [HS'.out]; exact Duo.swap ⟨_, _, _, _, HD7.out⟩⟩, by simp [intOf]; omega⟩)
            · have hkm : ¬ (k : Int) < (m : Int) := by omega
              have hke : k = m := by omega
              rw [hke] at hduo
              clear hlt hk hke
              have HDU1 := Lib.hid hduo
              clear hduo
              generalize playF S ms m = T at *
              go_wp2_with fail
              go_loopw [13] (fun i wr => ∃ k : Nat, k ≤ m ∧ i = .int .i64 k ∧ Duo W g b4 (playF S (fun j => ms (m - 1 - j)) k) c b9 T wr) (fun i _ => m - (intOf i).toNat)
              case atStart => exact ⟨0, by omega, rfl, HDU1.out⟩
              case round =>
                obtain ⟨k, hk, rfl, hduo⟩ := hrel
                clear HDU1
                by_cases hlt : k < m
                · have hlt' : (k : Int) < (m : Int) := by omega
                  obtain ⟨v, lv, u, lu, hdu⟩ := hduo
                  have HDU := Lib.hid hdu
                  clear hdu
                  obtain ⟨d0, d1, d2, d3, d4⟩ := blk4' HDU.out.one.box
                  have hb4 : b4 < wr.heap.size := heap_lt HDU.out.one.box
                  have i1 : IntKind.i64.wrap ((m : Int) - 1) = (m : Int) - 1 := IntWalk.i64_in _ (by omega)
                  have i2 : IntKind.i64.wrap ((m : Int) - 1 - (k : Int)) = (m : Int) - 1 - (k : Int) := IntWalk.i64_in _ (by omega)
                  have i3 : ((m : Int) - 1 - (k : Int)).toNat = m - 1 - k := by omega
                  have i4 : 0 ≤ (m : Int) - 1 - (k : Int) := by omega
                  have i5 : (m : Int) - 1 - (k : Int) < (m : Int) := by omega
                  obtain ⟨b, o, hAe, q1, q2, q3, q4, q5, q6⟩ := HM.out (m - 1 - k) (by omega)
                  have hbel := HDU.out.one.below
                  have e2 := (hbel.cell (p := ⟨b, o + (m - 1 - k) * 3, none⟩) q1).trans q2
                  have e3 := (hbel.cell (p := ⟨b, o + (m - 1 - k) * 3 + 1, none⟩) q1).trans q3
                  have e4 := (hbel.cell (p := ⟨b, o + (m - 1 - k) * 3 + 2, none⟩) q1).trans q4
                  have hbl : b < wr.heap.size := Nat.lt_of_lt_of_le q1 hbel.size
                  have Q5 := Lib.hid q5
                  have Q6 := Lib.hid q6
                  subst hAe
                  clear hbel q2 q3 q4 q5 q6
                  have DC := Lib.hid (fun w hp => do_any w g v lv (playF S (fun j => ms (m - 1 - j)) k) (ms (m - 1 - k)).kind (ms (m - 1 - k)).n (ms (m - 1 - k)).t Q5.out Q6.out hp)
                  rw [show (playF S (fun j => ms (m - 1 - j)) k).step (ms (m - 1 - k)).kind (ms (m - 1 - k)).n (ms (m - 1 - k)).t = playF S (fun j => ms (m - 1 - j)) (k + 1) from rfl] at DC
                  clear hlt Q5 Q6
                  generalize (ms (m - 1 - k)).kind = kd at *
                  generalize (ms (m - 1 - k)).n = nn at *
                  generalize (ms (m - 1 - k)).t = tx at *
                  generalize hS' : playF S (fun j => ms (m - 1 - j)) (k + 1) = S' at *
                  have HS' := Lib.hid hS'
                  clear hS'
                  generalize playF S (fun j => ms (m - 1 - j)) k = S1 at *
                  go_wp2_with fail
                  go_region_with (go_at_call 20; refine (DC.out _ (HDU.out.one.pair.below (by (repeat (first | exact Below.refl _ _ | assumption | refine Below.drew ?_ | refine below_drewN ?_ _ | refine Below.alloc ?_ (by (try simp); try omega) _ | refine Below.setCell ?_ (by (try simp); try omega) _))))).mono ?_; rintro e w5 ⟨lv', rfl, hd⟩; obtain ⟨a', c', hlv⟩ := hd.form; subst hlv; have HD := Lib.hid hd; clear hd; have HY := Lib.hid (HD.out.box HDU.out.one.pair (by (repeat (first | exact Below.refl _ _ | assumption | refine Below.drew ?_ | refine below_drewN ?_ _ | refine Below.alloc ?_ (by (try simp); try omega) _ | refine Below.setCell ?_ (by (try simp); try omega) _))) HDU.out.one.far HDU.out.one.box); have hb5 := heap_lt HY.out; obtain ⟨y0, y1, y2, y3, y4⟩ := blk4' HY.out; have z0 := fun hlt => (HD.out.new HDU.out.one.pair hlt).1.1; simp at z0; have z1 := fun hlt => (HD.out.new HDU.out.one.pair hlt).1.2.1; simp at z1; have z2 := fun hlt => (HD.out.new HDU.out.one.pair hlt).1.2.2.1; simp at z2; have z3 := fun hlt => (HD.out.new HDU.out.one.pair hlt).1.2.2.2; simp at z3; have z4 := fun hlt => (HD.out.new HDU.out.one.pair hlt).2.1; simp at z4; have z5 := fun hlt => (HD.out.new HDU.out.one.pair hlt).2.2.1; simp at z5; have z6 := fun hlt => (HD.out.new HDU.out.one.pair hlt).2.2.2.1; simp at z6; have z7 := fun hlt => (HD.out.new HDU.out.one.pair hlt).2.2.2.2; simp at z7)
                  all_goals (go_wp2_with fail)
                  all_goals (
                    refine (duo_alike HDU.out (by (repeat (first | exact Below.refl _ _ | assumption | refine Below.drew ?_ | refine below_drewN ?_ _ | refine Below.alloc ?_ (by (try simp); try omega) _ | refine Below.setCell ?_ (by (try simp); try omega) _))) HD.out ?hF ?hbox).mono ?post
                    case hF => (repeat (first | (with_reducible refine Kept.setCell ?_ (by (try simp); try omega) _) | (with_reducible refine Kept.alloc ?_ _) | (with_reducible refine Kept.drew ?_) | (with_reducible exact Kept.refl _ _)))
                    case hbox => first
                      | (with_reducible refine (Below.heap_alloc _ _ _ (by simpa using hb5)).trans ?_
                         exact box4 HY.out)
                      | (with_reducible refine box4 (x0 := lv) (x1 := .int .i64 S1.last) (x2 := .int .i64 S1.fuse) (x3 := .bool S1.down) ?_
                         exact (Below.heap_setCell _ _ _ _ (by simp; omega)).trans ((Below.heap_setCell _ _ _ _ (by simp; omega)).trans ((Below.heap_setCell _ _ _ _ (by simp; omega)).trans ((Below.heap_setCell _ _ _ _ (by simp; omega)).trans HY.out))))
                    case post =>
                      rintro e w6 ⟨rfl, v', hd6⟩
                      have HD6 := Lib.hid hd6
                      clear hd6
                      go_wp2_with fail
                      exact ⟨⟨k + 1, by omega, by go_num, by rw [HS'.out]; exact ⟨_, _, _, _, HD6.out⟩⟩, by simp [intOf]; omega⟩)
                · have hkm : ¬ (k : Int) < (m : Int) := by omega
                  obtain ⟨v, lv, u, lu, hdu⟩ := hduo
                  have HDU := Lib.hid hdu
                  clear hdu hlt
                  obtain ⟨d0, d1, d2, d3, d4⟩ := blk4' HDU.out.two.box
                  go_wp2_with fail
                  refine (alike_at HDU.out.two).mono ?_
                  rintro e w6 ⟨rfl, hb⟩
                  have hend := HDU.out.one.below.trans (hb.mono HDU.out.one.below.size)
                  clear hb
                  go_wp2_with fail
                  go_ret
                  exact ⟨rfl, hend⟩
end Go.Proofs.Ytgifckledbopmaa
