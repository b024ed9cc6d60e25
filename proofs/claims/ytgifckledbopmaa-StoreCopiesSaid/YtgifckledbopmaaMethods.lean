/- The walks of Write, Sync, Read, Crash, Arm: each tells just what the store's state says. -/
import Derived.Test.YtgifckledbopmaaWriteDo
namespace Go.Proofs.Ytgifckledbopmaa
open Go.RowKit

/-- What the fuse does: the state behind a step that is done, or none. -/
def Sto.burn (S : Sto) : Sto := if S.fuse > 0 then { S with fuse := S.fuse - 1 } else S
/-- Write: the error's number, and the state behind it. -/
def Sto.write (S : Sto) (t : ByteArray) : Int × Sto :=
  if S.down = true then (14, S)
  else if 4096 < t.size then (1, S)
  else if S.L.length = 4096 then (7, S)
  else if S.fuse = 0 then (14, { S with down := true })
  else (0, { S.burn with L := S.L ++ [t] })
def Sto.sync (S : Sto) : Int × Sto :=
  if S.down = true then (14, S)
  else if S.fuse = 0 then (14, { S with down := true })
  else (0, { S.burn with last := S.L.length })

/-- How a store stands behind a step: the array of its writes is the old one, or a new one. -/
def After (w : World) (g : Nat) (v : Value) (S' : Sto) (w' : World) : Prop :=
  ∃ v', StoreAt w' g v' S' ∧ Kept (mine g v) w w' ∧ ∀ k, v'.ownBlock = some k → v.ownBlock = some k ∨ w.heap.size ≤ k

theorem new_cell {w : World} {x : Value} {t : TypeId} {b : Nat} (hb : b = w.heap.size) : (w.alloc (.cells #[x] t)).cell? ⟨b, 0, none⟩ = some x := by
  subst hb
  rw [cell_of_row _ _ 0 #[x] t (0, 0) (heap_alloc_new w _)]; rfl
theorem new_cell2 {w : World} {x : Value} {t : TypeId} {b : Nat} {o : Obj} (hb : b = w.heap.size) : ((w.alloc (.cells #[x] t)).alloc o).cell? ⟨b, 0, none⟩ = some x := by
  rw [World.cell?_alloc_lt _ _ _ (by subst hb; simp)]; exact new_cell hb

set_option maxHeartbeats 2000000 in
theorem sync_any (w : World) (g : Nat) (v : Value) (S : Sto) (h : StoreAt w g v S) :
    Calls Try.prog 13 #[.pointer (some ⟨g, 0, none⟩)] w fun e w' => e = .returned (.int .i64 S.sync.1) ∧ After w g v S.sync.2 w' := by
  obtain ⟨c0, c1, c2, c3⟩ := h.cell
  have hglt := h.lt
  have f2 := h.frozen 2
  have f3 := h.frozen 3
  obtain ⟨hf1, hf2⟩ := h.fuse
  have HS := Lib.hid h
  clear h c0 c1
  cases hd : S.down with
  | true =>
    have e1 : S.sync = (14, S) := by unfold Sto.sync; rw [if_pos hd]
    rw [e1]
    rw [hd] at c3
    clear hd e1
    go_enter Try.func13, Try.ntmps13
    go_wp2
    go_ret
    exact ⟨rfl, v, HS.out.alloc _, (Kept.refl _ w).alloc _, fun k hk => .inl hk⟩
  | false =>
    rw [hd] at c3
    by_cases hz : S.fuse = 0
    · have e1 : S.sync = (14, { S with down := true }) := by unfold Sto.sync; rw [if_neg (by rw [hd]; decide), if_pos hz]
      rw [e1]
      have hzb : (S.fuse == 0) = true := by rw [beq_iff_eq]; exact hz
      clear hd e1 hz
      go_enter Try.func13, Try.ntmps13
      go_wp2_with (go_in)
      go_ret
      exact ⟨rfl, v, (HS.out.setDown true).alloc _, ((Kept.refl _ w).setCell (.inl (.inl rfl)) _).alloc _, fun k hk => .inl hk⟩
    · by_cases hp : 0 < S.fuse
      · have e1 : S.sync = (0, { S with fuse := S.fuse - 1, last := S.L.length }) := by unfold Sto.sync Sto.burn; rw [if_neg (by rw [hd]; decide), if_neg hz, if_pos hp]
        rw [e1]
        have hzb : (S.fuse == 0) = false := by rw [beq_eq_false_iff_ne]; exact hz
        clear hd e1 hz
        go_enter Try.func13, Try.ntmps13
        go_wp2_with (first
          | (go_at_call 27; go_must (refine (sync_do _ _ g v _ ((HS.out.setFuse (S.fuse - 1) (by omega) (by omega)).alloc _) (new_cell (by simp))).mono ?_; rintro e w1 ⟨rfl, hs, hk⟩))
          | go_in)
        go_ret
        exact ⟨rfl, v, hs, (((Kept.refl _ w).setCell (.inl (.inl rfl)) _).alloc _).trans hk, fun k hk => .inl hk⟩
      · have e1 : S.sync = (0, { S with last := S.L.length }) := by unfold Sto.sync Sto.burn; rw [if_neg (by rw [hd]; decide), if_neg hz, if_neg hp]
        rw [e1]
        have hzb : (S.fuse == 0) = false := by rw [beq_eq_false_iff_ne]; exact hz
        clear hd e1 hz
        go_enter Try.func13, Try.ntmps13
        go_wp2_with (first
          | (go_at_call 27; go_must (refine (sync_do _ _ g v _ (HS.out.alloc _) (new_cell rfl)).mono ?_; rintro e w1 ⟨rfl, hs, hk⟩))
          | go_in)
        go_ret
        exact ⟨rfl, v, hs, ((Kept.refl _ w).alloc _).trans hk, fun k hk => .inl hk⟩

set_option maxHeartbeats 2000000 in
theorem write_any (w : World) (g : Nat) (v : Value) (S : Sto) (t : ByteArray) (ht : t.size ≤ maxLen) (h : StoreAt w g v S) :
    Calls Try.prog 12 #[.pointer (some ⟨g, 0, none⟩), .string t] w fun e w' => e = .returned (.int .i64 (S.write t).1) ∧ After w g v (S.write t).2 w' := by
  obtain ⟨c0, c1, c2, c3⟩ := h.cell
  have hglt := h.lt
  have f2 := h.frozen 2
  have f3 := h.frozen 3
  obtain ⟨hf1, hf2⟩ := h.fuse
  obtain ⟨a, cap, hv, hl1, hl2, _⟩ := h.form
  have hlen := h.len
  have HS := Lib.hid h
  have HR := Lib.hid h.row.lt
  unfold maxLen at hl2 ht
  clear h c1
  cases hd : S.down with
  | true =>
    have e1 : S.write t = (14, S) := by unfold Sto.write; rw [if_pos hd]
    rw [e1]
    rw [hd] at c3
    clear hd e1 hv
    go_enter Try.func12, Try.ntmps12
    go_wp2
    go_ret
    exact ⟨rfl, v, (HS.out.alloc _).alloc _, ((Kept.refl _ w).alloc _).alloc _, fun k hk => .inl hk⟩
  | false =>
    rw [hd] at c3
    by_cases hsz : 4096 < t.size
    · have e1 : S.write t = (1, S) := by unfold Sto.write; rw [if_neg (by rw [hd]; decide), if_pos hsz]
      rw [e1]
      clear hd e1 hv
      go_enter Try.func12, Try.ntmps12
      go_wp2
      go_ret
      exact ⟨rfl, v, (HS.out.alloc _).alloc _, ((Kept.refl _ w).alloc _).alloc _, fun k hk => .inl hk⟩
    · by_cases hfull : S.L.length = 4096
      · have e1 : S.write t = (7, S) := by unfold Sto.write; rw [if_neg (by rw [hd]; decide), if_neg hsz, if_pos hfull]
        rw [e1]
        have hfb : (((S.L.length : Nat) : Int) == 4096) = true := by rw [beq_iff_eq]; omega
        clear hd e1 hfull
        subst hv
        go_enter Try.func12, Try.ntmps12
        go_wp2
        go_ret
        exact ⟨rfl, _, (HS.out.alloc _).alloc _, ((Kept.refl _ w).alloc _).alloc _, fun k hk => .inl hk⟩
      · have hfb : (((S.L.length : Nat) : Int) == 4096) = false := by rw [beq_eq_false_iff_ne]; omega
        have hlt : S.L.length < 4096 := by omega
        by_cases hz : S.fuse = 0
        · have e1 : S.write t = (14, { S with down := true }) := by unfold Sto.write; rw [if_neg (by rw [hd]; decide), if_neg hsz, if_neg hfull, if_pos hz]
          rw [e1]
          have hzb : (S.fuse == 0) = true := by rw [beq_iff_eq]; exact hz
          clear hd e1 hz hfull
          subst hv
          go_enter Try.func12, Try.ntmps12
          go_wp2_with (go_in)
          go_ret
          exact ⟨rfl, _, ((HS.out.setDown true).alloc _).alloc _, (((Kept.refl _ w).setCell (.inl (.inl rfl)) _).alloc _).alloc _, fun k hk => .inl hk⟩
        · by_cases hp : 0 < S.fuse
          · have e1 : S.write t = (0, { S with fuse := S.fuse - 1, L := S.L ++ [t] }) := by unfold Sto.write Sto.burn; rw [if_neg (by rw [hd]; decide), if_neg hsz, if_neg hfull, if_neg hz, if_pos hp]
            rw [e1]
            have hzb : (S.fuse == 0) = false := by rw [beq_eq_false_iff_ne]; exact hz
            clear hd e1 hz hfull
            subst hv
            go_enter Try.func12, Try.ntmps12
            go_wp2_with (first
              | (go_at_call 26; go_must (refine (write_do _ w.heap.size (w.heap.size + 1) g _ _ t (((HS.out.setFuse (S.fuse - 1) (by omega) (by omega)).alloc _).alloc _) hlt (fun e => by have := HR.out _ e; omega) (new_cell2 (by simp)) (new_cell (by simp))).mono ?_; rintro e w1 ⟨rfl, v', hs, hk, hv'⟩))
              | go_in)
            go_ret
            exact ⟨rfl, v', hs, ((((Kept.refl _ w).setCell (.inl (.inl rfl)) _).alloc _).alloc _).trans hk, fun k hk => (hv' k hk).imp id (fun h => by simp at h; omega)⟩
          · have e1 : S.write t = (0, { S with L := S.L ++ [t] }) := by unfold Sto.write Sto.burn; rw [if_neg (by rw [hd]; decide), if_neg hsz, if_neg hfull, if_neg hz, if_neg hp]
            rw [e1]
            have hzb : (S.fuse == 0) = false := by rw [beq_eq_false_iff_ne]; exact hz
            clear hd e1 hz hfull
            subst hv
            go_enter Try.func12, Try.ntmps12
            go_wp2_with (first
              | (go_at_call 26; go_must (refine (write_do _ w.heap.size (w.heap.size + 1) g _ _ t ((HS.out.alloc _).alloc _) hlt (fun e => by have := HR.out _ e; omega) (new_cell2 rfl) (new_cell (by simp))).mono ?_; rintro e w1 ⟨rfl, v', hs, hk, hv'⟩))
              | go_in)
            go_ret
            exact ⟨rfl, v', hs, (((Kept.refl _ w).alloc _).alloc _).trans hk, fun k hk => (hv' k hk).imp id (fun h => by simp at h; omega)⟩
end Go.Proofs.Ytgifckledbopmaa
