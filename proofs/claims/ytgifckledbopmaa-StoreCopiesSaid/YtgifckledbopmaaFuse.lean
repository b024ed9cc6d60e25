/- The walk of StoreFuse: it returns true, old memory is as it was. -/
import Derived.Test.YtgifckledbopmaaOne
import Derived.OpenShut
import Derived.Laws.MakeOwn
import Derived.Laws.BytesArg
namespace Go.Proofs.Ytgifckledbopmaa
open Go.RowKit

/-- A new slice of so many zero bytes; the string that it makes. -/
def zs (n : Nat) : Array Value := madeCells #[.int .u8 0] n
def zstr (n : Nat) : ByteArray := strOfNums (List.replicate n 0)
theorem zstr_size (n : Nat) : (zstr n).size = n := by unfold zstr; rw [strOfNums_size, List.length_replicate]
theorem info5 : (Try.prog.info? 5).map (fun i => (i.zero, i.size, i.bytes)) = some (some (.int .u8 0), 1, 1) := by kernel_rfl

theorem make_zero (k : IntKind) (n : Nat) (hn : n ≤ 65535) (W : World) : (Instr.makeSlice 36 (.int k (n : Int)) (.int k (n : Int))).run Try.prog W = .ok (.slice (some ⟨W.heap.size, 0, none⟩) n n) (W.alloc (.cells (zs n) 5)) := by
  obtain ⟨i0, hi0, hz0, hz1, hz2⟩ := info_parts info5
  have h := run_make (P := Try.prog) W 36 5 i0 _ Try.underlying36 hi0 hz0 k k (n : Int) (n : Int) (by omega) (Int.le_refl _) (by rw [hz2]; omega) (by omega)
  rw [Int.toNat_natCast, hz1, Nat.mul_one] at h
  exact h

theorem conv_zero (n : Nat) (W : World) : (convert 36 9 (.slice (some ⟨W.heap.size, 0, none⟩) n n)).run Try.prog (W.alloc (.cells (zs n) 5)) = .ok (.string (zstr n)) (W.alloc (.cells (zs n) 5)) := by
  refine run_convert_bytes_arg (P := Try.prog) (W.alloc (.cells (zs n) 5)) 36 5 Try.underlying36 Try.underlying5 W.heap.size 0 n n (List.replicate n 0) (by simp) (fun i hi => ?_) 9 Try.underlying9
  rw [Nat.zero_add, cell_of_row _ _ i (zs n) 5 (0, 0) (heap_alloc_new W _)]
  have : (zs n).toList = List.replicate n (.int .u8 0) := toList_madeCells_one _ _
  rw [← Array.getElem?_toList, this, List.getElem?_replicate, if_pos hi, List.getD_eq_getElem?_getD, List.getElem?_replicate, if_pos hi]
  rfl

/-- The bools of an argument, cell by cell. -/
def ArgBools (w : World) (A : Option Addr) (n : Nat) (bl : Nat → Bool) : Prop := ∀ j, j < n → ∃ b o, A = some ⟨b, o, none⟩ ∧ b < w.heap.size ∧ w.cell? ⟨b, o + j, none⟩ = some (.bool (bl j))

theorem long_write (S : Sto) (hd : S.down = false) : S.write (zstr 4097) = (1, S) := by
  unfold Sto.write
  rw [if_neg (by rw [hd]; decide), if_pos (by rw [zstr_size]; omega)]
theorem long_down (S : Sto) (hd : S.down = true) : S.write (zstr 4097) = (14, S) := by
  unfold Sto.write
  rw [if_pos hd]
theorem sync_zero (S : Sto) (hd : S.down = false) (hf : S.fuse = 0) : S.sync = (14, { S with down := true }) := by
  unfold Sto.sync
  rw [if_neg (by rw [hd]; decide), if_pos hf]
theorem sync_pos (S : Sto) (hd : S.down = false) (hf : 0 < S.fuse) : S.sync = (0, { S with fuse := S.fuse - 1, last := S.L.length }) := by
  unfold Sto.sync Sto.burn
  rw [if_neg (by rw [hd]; decide), if_neg (by omega), if_pos hf]
theorem a_pos (S : Sto) (hd : S.down = false) (hf : 0 < S.fuse) (hl : S.L.length < 4096) : S.write sA = (0, { S with fuse := S.fuse - 1, L := S.L ++ [sA] }) := by
  unfold Sto.write Sto.burn
  rw [if_neg (by rw [hd]; decide), if_neg (by decide), if_neg (by omega), if_neg (by omega), if_pos hf]

set_option maxRecDepth 100000 in
set_option maxHeartbeats 4000000 in
theorem fuse_any (F : Nat) (A : Option Addr) (n c : Nat) (bl : Nat → Bool) (W : World) (hF : F ≤ 255) (hn : n ≤ maxLen) (hA : ArgBools W A n bl) :
    Calls Try.prog 8 #[.int .u8 F, .slice A n c] W fun e w' => e = .returned (.bool true) ∧ Below W.heap.size W w' := by
  unfold maxLen at hn
  by_cases hlong : 100 < n
  · clear hA
    go_enter Try.func8, Try.ntmps8
    go_wp2_with (go_at_call 10; refine (awake_any _).mono ?_; rintro e w1 ⟨rfl, hb⟩)
    go_ret
    exact ⟨rfl, hb⟩
  · have HA := Lib.hid hA
    clear hA
    go_enter Try.func8, Try.ntmps8
    go_wp2_with fail
    refine (awake_any _).mono ?_
    rintro e w1 ⟨rfl, hb⟩
    go_wp2_with fail
    refine (new1 hb).mono ?_
    rintro e w2 ⟨g, rfl, _, h1⟩
    have hp := fun W => ptr_nil W g
    go_wp2_with fail
    refine (arm1 (S' := ⟨[], 0, F, false⟩) h1 F (by omega) (by unfold Sto.arm; rw [show max (F : Int) (-1) = F by omega])).mono ?_
    rintro e w3 ⟨rfl, h2⟩
    clear h1 hb hp
    have hmk : (Instr.makeSlice 36 (.int .i64 4097) (.int .i64 4097)).run Try.prog w3 = .ok (.slice (some ⟨w3.heap.size, 0, none⟩) 4097 4097) (w3.alloc (.cells (zs 4097) 5)) := make_zero .i64 4097 (by omega) w3
    have hcv := conv_zero 4097 w3
    go_wp2_with fail
    clear hmk hcv
    have h3 := h2.alloc (.cells (zs 4097) 5)
    have hsl : (zstr 4097).size ≤ maxLen := by rw [zstr_size]; simp [maxLen]
    have HL := Lib.hid hsl
    clear h2 hsl
    generalize hlg : zstr 4097 = lg at *
    have HG := Lib.hid hlg
    clear hlg
    go_loopw [7] (fun i wr => ∃ k : Nat, k ≤ n ∧ k ≤ F ∧ i = .int .i64 k ∧ ∃ S : Sto, One W g S wr ∧ S.fuse = (F : Int) - k ∧ S.down = false ∧ S.L.length ≤ k) (fun i _ => n - (intOf i).toNat)
    case atStart => exact ⟨0, by omega, by omega, rfl, _, h3, by simp, rfl, Nat.le_refl _⟩
    case round =>
      clear h3
      obtain ⟨k, hk, hkF, rfl, S, h3, hf, hd, hl⟩ := hrel
      have HF := Lib.hid hf
      have HD := Lib.hid hd
      clear hf hd
      have C1 := Lib.hid (write1 (n := 1) (S' := S) h3 lg HL.out (by rw [← HG.out]; exact long_write S HD.out))
      by_cases hlt : k < n
      · by_cases hkl : k < F
        · obtain ⟨b, o, rfl, hb1, hc⟩ := HA.out k hlt
          clear h3
          go_wp2_with fail
          refine C1.out.mono ?_
          rintro e w4 ⟨rfl, h4⟩
          have hcell := (h4.2.1.cell (p := ⟨b, o + k, none⟩) hb1).trans hc
          clear hc C1
          have hfp : 0 < S.fuse := by have := HF.out; omega
          cases hbl : bl k with
          | true =>
            rw [hbl] at hcell
            clear hbl
            go_wp2_with fail
            refine (write1 h4 sA (by simp [maxLen, ByteArray.size]) (a_pos S HD.out hfp (by omega))).mono ?_
            rintro e w5 ⟨rfl, h5⟩
            clear hcell h4
            go_wp2_with fail
            exact ⟨⟨k + 1, by omega, by omega, by go_num, _, h5, by have := HF.out; simp only []; omega, HD.out, by simp; omega⟩, by simp [intOf]; omega⟩
          | false =>
            rw [hbl] at hcell
            clear hbl
            go_wp2_with fail
            refine (sync1 h4 (sync_pos S HD.out hfp)).mono ?_
            rintro e w5 ⟨rfl, h5⟩
            clear hcell h4
            go_wp2_with fail
            exact ⟨⟨k + 1, by omega, by omega, by go_num, _, h5, by have := HF.out; simp only []; omega, HD.out, by simp; omega⟩, by simp [intOf]; omega⟩
        · obtain rfl : k = F := by omega
          clear h3
          go_wp2_with fail
          refine C1.out.mono ?_
          rintro e w4 ⟨rfl, h4⟩
          go_wp2_with fail
          refine (sync1 h4 (sync_zero S HD.out (by have := HF.out; omega))).mono ?_
          rintro e w5 ⟨rfl, h5⟩
          go_wp2_with fail
          refine (write1 (n := 14) (S' := { S with down := true }) h5 lg HL.out (by rw [← HG.out]; exact long_down _ rfl)).mono ?_
          rintro e w6 ⟨rfl, h6⟩
          go_wp2_with fail
          go_ret
          exact ⟨rfl, h6.2.1⟩
      · go_wp2_with fail
        refine (down1 h3 HD.out).mono ?_
        rintro e w4 ⟨rfl, h4⟩
        go_wp2_with fail
        go_ret
        exact ⟨rfl, h4.2.1⟩

theorem fuse_all (F : Int) (A : Option Addr) (n c : Nat) (bl : Nat → Bool) (W : World) (w1 : (Lit.int .u8 F).wf = true) (hn : n ≤ maxLen) (hA : ArgBools W A n bl) :
    Calls Try.prog 8 #[.int .u8 F, .slice A n c] W fun e w' => e = .returned (.bool true) ∧ Below W.heap.size W w' := by
  have h2 := bounds_u8 w1
  obtain ⟨k, rfl⟩ := Int.eq_ofNat_of_zero_le h2.1
  exact fuse_any k A n c bl W (by omega) hn hA
end Go.Proofs.Ytgifckledbopmaa
