/- The walks of Name, Parse, Stage, Index, and of the document's Find, Names, Stages. -/
import Derived.Test.YtlmbdpncbmfopaaDoorNeeds
namespace Go.Proofs.YtlmbdpncbmfopaaDoor
open Go.RowKit

def stages : List ByteArray := [
  ⟨#[102, 97, 99, 116, 111, 114, 121]⟩, ⟨#[104, 97, 110, 100, 101, 100]⟩, ⟨#[98, 111, 97, 114, 100, 101, 100]⟩, ⟨#[115, 97, 105, 108, 105, 110, 103]⟩,
  ⟨#[113, 117, 97, 121]⟩, ⟨#[99, 117, 115, 116, 111, 109, 115]⟩, ⟨#[114, 111, 97, 100]⟩, ⟨#[100, 111, 111, 114]⟩]

/-- The place of a text in a list, from one place on (-1: it isn't there). -/
def findFrom (s : ByteArray) : List ByteArray → Nat → Int
  | [], _ => -1
  | x :: r, k => if x.toList = s.toList then k else findFrom s r (k + 1)
def findI (l : List ByteArray) (s : ByteArray) : Int := findFrom s l 0

theorem findFrom_ge (s : ByteArray) (l : List ByteArray) (k : Nat) : findFrom s l k = -1 ∨ (k : Int) ≤ findFrom s l k ∧ findFrom s l k < k + l.length := by
  induction l generalizing k with
  | nil => exact .inl rfl
  | cons x r ih =>
    unfold findFrom
    split
    · right; simp; omega
    · rcases ih (k + 1) with h | h
      · exact .inl h
      · right; simp only [List.length_cons]; omega
/-- What has not been found among the first k is found, if at all, among the others. -/
theorem findFrom_drop (s : ByteArray) (l : List ByteArray) (k : Nat) (x : ByteArray) (h : l[k]? = some x) : findFrom s (l.drop k) k = if x.toList = s.toList then (k : Int) else findFrom s (l.drop (k + 1)) (k + 1) := by
  have : l.drop k = x :: l.drop (k + 1) := by
    obtain ⟨hk, rfl⟩ := List.getElem?_eq_some_iff.1 h
    exact List.drop_eq_getElem_cons hk
  rw [this]; rfl

/-- A slice of strings, known cell by cell. -/
def HasStrs (w : World) (a : Addr) (l : List ByteArray) : Prop := a.block < w.heap.size ∧ ∀ j u, l[j]? = some u → w.cell? (a.add j) = some (.string u)
theorem HasStrs.below {w w' : World} {a : Addr} {l : List ByteArray} {B : Nat} (h : HasStrs w a l) (hb : Below B w w') (hB : w.heap.size ≤ B) : HasStrs w' a l :=
  ⟨Nat.lt_of_lt_of_le h.1 hb.size, fun j u hu => by rw [hb.cell (by rw [add_block]; exact Nat.lt_of_lt_of_le h.1 hB)]; exact h.2 j u hu⟩

set_option maxHeartbeats 400000 in
/-- Find, the document's. -/
theorem find_any (g n cap : Nat) (l : List ByteArray) (s : ByteArray) (w : World) (hn : n = l.length) (hz : n ≤ 1000) (h : HasStrs w ⟨g, 0, none⟩ l) :
    Calls Tryd.prog 21 #[.slice (some ⟨g, 0, none⟩) n cap, .string s] w fun e w' => e = .returned (.int .i64 (findI l s)) ∧ Below w.heap.size w w' := by
  have HC := Lib.hid h.2
  have HN := Lib.hid hn
  clear h hn
  go_enter Tryd.func21, Tryd.ntmps21
  go_wp2
  go_loop [5] (fun i => ∃ k : Nat, k ≤ n ∧ i = .int .i64 k ∧ findI l s = findFrom s (l.drop k) k) (fun i => n - (intOf i).toNat)
  case atStart => exact ⟨0, by omega, rfl, rfl⟩
  case round =>
    obtain ⟨k, hk, rfl, hf⟩ := hrel
    have HF := Lib.hid hf
    clear hf
    by_cases hlt : k < n
    · have hku : l[k]? = some (l.getD k ByteArray.empty) := by rw [List.getD_eq_getElem?_getD, List.getElem?_eq_getElem (by rw [← HN.out]; exact hlt)]; rfl
      have hcell := HC.out k _ hku
      have HD := Lib.hid (findFrom_drop s l k _ hku)
      clear hku
      generalize l.getD k ByteArray.empty = x at *
      rw [Addr.add_lit] at hcell
      rw [Nat.zero_add] at hcell
      by_cases hx : x.toList = s.toList
      · have hxb : (x.toList == s.toList) = true := by rw [hx]; simp
        have HX := Lib.hid hx
        clear hx
        go_wp2
        go_ret
        refine ⟨?_, Below.refl _ _⟩
        rw [HF.out, HD.out, if_pos HX.out]; rfl
      · have hxb : (x.toList == s.toList) = false := by simpa using hx
        have HX := Lib.hid hx
        clear hx
        go_wp2
        exact ⟨⟨k + 1, by omega, by go_num, by rw [HF.out, HD.out, if_neg HX.out]⟩, by simp [intOf]; omega⟩
    · have hkn : k = l.length := by have := HN.out; omega
      have HX := Lib.hid hkn
      clear hkn
      go_wp2
      go_ret
      refine ⟨?_, Below.refl _ _⟩
      rw [HF.out, HX.out, List.drop_length]; rfl

set_option maxHeartbeats 400000 in
/-- Index, of slices. -/
theorem index_any (g n cap : Nat) (l : List ByteArray) (s : ByteArray) (w : World) (hn : n = l.length) (hz : n ≤ 1000) (h : HasStrs w ⟨g, 0, none⟩ l) :
    Calls Tryd.prog 29 #[.slice (some ⟨g, 0, none⟩) n cap, .string s] w fun e w' => e = .returned (.int .i64 (findI l s)) ∧ Below w.heap.size w w' := by
  have HC := Lib.hid h.2
  have HN := Lib.hid hn
  clear h hn
  go_enter Tryd.func29, Tryd.ntmps29
  go_wp2
  go_loop [8] (fun i => ∃ k : Nat, k ≤ n ∧ i = .int .i64 k ∧ findI l s = findFrom s (l.drop k) k) (fun i => n - (intOf i).toNat)
  case atStart => exact ⟨0, by omega, rfl, rfl⟩
  case round =>
    obtain ⟨k, hk, rfl, hf⟩ := hrel
    have HF := Lib.hid hf
    clear hf
    by_cases hlt : k < n
    · have hku : l[k]? = some (l.getD k ByteArray.empty) := by rw [List.getD_eq_getElem?_getD, List.getElem?_eq_getElem (by rw [← HN.out]; exact hlt)]; rfl
      have hcell := HC.out k _ hku
      have HD := Lib.hid (findFrom_drop s l k _ hku)
      clear hku
      generalize l.getD k ByteArray.empty = x at *
      rw [Addr.add_lit] at hcell
      rw [Nat.zero_add] at hcell
      by_cases hx : x.toList = s.toList
      · have hxb : (s.toList == x.toList) = true := by rw [hx]; simp
        have HX := Lib.hid hx
        clear hx
        go_wp2
        go_ret
        refine ⟨?_, Below.refl _ _⟩
        rw [HF.out, HD.out, if_pos HX.out]; rfl
      · have hxb : (s.toList == x.toList) = false := by simpa using fun h => hx h.symm
        have HX := Lib.hid hx
        clear hx
        go_wp2
        exact ⟨⟨k + 1, by omega, by go_num, by rw [HF.out, HD.out, if_neg HX.out]⟩, by simp [intOf]; omega⟩
    · have hkn : k = l.length := by have := HN.out; omega
      have HX := Lib.hid hkn
      clear hkn
      go_wp2
      go_ret
      refine ⟨?_, Below.refl _ _⟩
      rw [HF.out, HX.out, List.drop_length]; rfl

theorem cells_new (w : World) (cs : Array Value) (t : TypeId) (b : Nat) (hb : b = w.heap.size) (l : List ByteArray) (h : cs.toList = l.map Value.string) :
    HasStrs (w.alloc (.cells cs t)) ⟨b, 0, none⟩ l := by
  subst hb
  refine ⟨by simp, fun j u hu => ?_⟩
  have := World.news_of_block (w := w.alloc (.cells cs t)) (B := w.heap.size) (cs := cs) (t := t) (fr := (0, 0)) (heap_alloc_new w _) j (.string u) (by rw [h, List.getElem?_map, hu]; rfl)
  exact this

set_option maxHeartbeats 400000 in
theorem refnames_any (w : World) : Calls Tryd.prog 22 #[] w fun e w' => ∃ g, e = .returned (.slice (some ⟨g, 0, none⟩) 8 8) ∧ HasStrs w' ⟨g, 0, none⟩ names ∧ Below w.heap.size w w' := by
  go_enter Tryd.func22, Tryd.ntmps22
  go_wp2
  go_ret
  exact ⟨_, rfl, cells_new _ _ _ _ rfl _ rfl, (Below.refl _ _).alloc (Nat.le_refl _) _⟩

set_option maxHeartbeats 400000 in
theorem refstages_any (w : World) : Calls Tryd.prog 23 #[] w fun e w' => ∃ g, e = .returned (.slice (some ⟨g, 0, none⟩) 8 8) ∧ HasStrs w' ⟨g, 0, none⟩ stages ∧ Below w.heap.size w w' := by
  go_enter Tryd.func23, Tryd.ntmps23
  go_wp2
  go_ret
  exact ⟨_, rfl, cells_new _ _ _ _ rfl _ rfl, (Below.refl _ _).alloc (Nat.le_refl _) _⟩

set_option maxHeartbeats 400000 in
theorem name_any (pa : Nat → Addr) (t : Int) (w : World) (hT : Terms pa w) : Calls Tryd.prog 24 #[.int .i64 t] w fun e w' => e = .returned (.string (nameOf t)) ∧ Below w.heap.size w w' := by
  have H27 := Lib.hid (of_any pa t w hT)
  clear hT
  go_enter Tryd.func24, Tryd.ntmps24
  go_wp2_with (go_at_call 27; refine (H27.out).mono ?_; rintro e w1 ⟨a, l, c, hs, rfl, hb⟩; clear hs)
  go_ret
  exact ⟨rfl, hb.alloc hb.size _⟩

theorem ret_ib {a b : Int} {c d : Bool} (h : a = b) (h2 : c = d) : Ending.returned (.tuple #[.int .i64 a, .bool c]) = .returned (.tuple #[.int .i64 b, .bool d]) := by rw [h, h2]

set_option maxHeartbeats 400000 in
theorem stage_any (s : ByteArray) (w : World) (h : HasStrs w ⟨1, 0, none⟩ stages) :
    Calls Tryd.prog 20 #[.string s] w fun e w' => e = .returned (.tuple #[.int .i64 (max (findI stages s) 0), .bool (decide (0 ≤ findI stages s))]) ∧ Below w.heap.size w w' := by
  have HI := Lib.hid (index_any 1 8 8 stages s w rfl (by omega) h)
  have hc0 := h.2 0 _ rfl
  rw [Addr.add_lit] at hc0
  clear h
  generalize findI stages s = F at *
  go_enter Tryd.func20, Tryd.ntmps20
  go_wp2_with (go_at_call 29; refine (HI.out).mono ?_; rintro e w1 ⟨rfl, hb⟩)
  all_goals (go_ret2; exact ⟨ret_ib (by omega) rfl, hb⟩)
/-- The table's block, whole. -/
def Blk32 (w : World) : Prop := ∃ cs t fr, w.heap[0]? = some (.cells cs t fr) ∧ cs.size = 32

theorem u52 (w : World) : (underlying 52).run Tryd.prog w = .ok (.array 8 48) w := run_underlying Tryd.underlying52 w
theorem run_index_terms (cs : Array Value) (k : Nat) (hk : k < 8) (w : World) :
    (Instr.index 52 (.agg cs) (.int .i64 k)).run Tryd.prog w = .ok (.agg (cs.extract (k * 4) (k * 4 + 4))) w := by
  have hs : ∀ w, (sizeOf 48).run Tryd.prog w = .ok 4 w := fun w => by kernel_rfl
  have ha : ∀ w, (isAgg 48).run Tryd.prog w = .ok true w := fun w => by kernel_rfl
  have hi : ∀ w, (asIntOf (.int .i64 (k : Int))).run Tryd.prog w = .ok (.i64, (k : Int)) w := fun w => rfl
  unfold Instr.index
  simp only [Sem.run_bind, hi, u52, Result.andThen_ok]
  have h1 : 0 ≤ (k : Int) ∧ (k : Int) < ((8 : Nat) : Int) := by omega
  rw [if_pos h1]
  simp only [Sem.run_bind, hs, Result.andThen_ok]
  unfold part
  simp only [Sem.run_bind, ha, hs, Result.andThen_ok, if_true, Sem.run_pure, Int.toNat_natCast]

theorem extract4 (cs : Array Value) (k : Nat) (a b c d : Value) (h0 : cs[k * 4]? = some a) (h1 : cs[k * 4 + 1]? = some b) (h2 : cs[k * 4 + 2]? = some c) (h3 : cs[k * 4 + 3]? = some d) :
    cs.extract (k * 4) (k * 4 + 4) = #[a, b, c, d] := by
  have hs : k * 4 + 4 ≤ cs.size := by
    obtain ⟨h, _⟩ := Array.getElem?_eq_some_iff.1 h3
    omega
  apply Array.ext
  · simp; omega
  · intro i hi1 hi2
    have hi : i < 4 := by simpa using hi2
    have e : (cs.extract (k * 4) (k * 4 + 4))[i]? = cs[k * 4 + i]? := by
      rw [Array.getElem?_extract, if_pos (by omega)]
    rw [Array.getElem?_eq_getElem hi1] at e
    match i, hi with
    | 0, _ => exact Option.some.inj (e.trans h0)
    | 1, _ => exact Option.some.inj (e.trans h1)
    | 2, _ => exact Option.some.inj (e.trans h2)
    | 3, _ => exact Option.some.inj (e.trans h3)

set_option maxHeartbeats 1000000 in
theorem parse_any (pa : Nat → Addr) (s : ByteArray) (w : World) (hT : Terms pa w) (hB : Blk32 w) :
    Calls Tryd.prog 19 #[.string s] w fun e w' => e = .returned (.tuple #[.int .i64 (max (findI names s) 0), .bool (decide (0 ≤ findI names s))]) ∧ Below w.heap.size w w' := by
  obtain ⟨cs, ty, fr, hg, hsz⟩ := hB
  have hcell : ∀ i, w.cell? ⟨0, i, none⟩ = cs[i]? := fun i => cell_of_row w 0 i cs ty fr hg
  have hix : ∀ k : Nat, k < 8 → ∃ a l c, (∀ W : World, (Instr.index 52 (.agg cs) (.int .i64 k)).run Tryd.prog W = .ok (.agg #[.string (nameOf k), .int .i64 (costOf k), .int .i64 (riskOf k), .slice a l c]) W) := by
    intro k hk
    refine ⟨some (pa k), (papersOf k).length, (papersOf k).length, fun W => ?_⟩
    rw [run_index_terms cs k hk W, extract4 cs k _ _ _ _ ((hcell _).symm.trans (hT.name k hk)) ((hcell _).symm.trans (hT.cost k hk)) ((hcell _).symm.trans (hT.risk k hk)) ((hcell _).symm.trans (hT.pap k hk))]
  have hnm : ∀ k : Nat, k < 8 → names[k]? = some (nameOf k) := by
    have : ∀ k : Fin 8, names[k.val]? = some (nameOf k.val) := by decide +kernel
    exact fun k hk => this ⟨k, hk⟩
  have HIX := Lib.hid hix
  have HNM := Lib.hid hnm
  have hz := hT.size
  have hi52 : (Tryd.prog.info? 52).map (·.size) = some cs.size := by rw [hsz]; kernel_rfl
  clear hT hcell hix hnm
  go_enter Tryd.func19, Tryd.ntmps19
  go_wp2_with (with_reducible refine wpList_load_row rfl 52 (.global 0) rfl 0 rfl ty cs fr _ hg Tryd.underlying52 rfl hi52 ?_)
  clear hg hi52
  go_loopw [4, 5, 7] (fun _ _ i wr => ∃ k : Nat, k ≤ 8 ∧ i = .int .i64 k ∧ findI names s = findFrom s (names.drop k) k ∧ Below w.heap.size w wr) (fun _ _ i _ => 8 - (intOf i).toNat)
  case atStart => exact ⟨0, by omega, rfl, rfl, Below.refl _ _⟩
  case round =>
    obtain ⟨k, hk, rfl, hf, hb⟩ := hrel
    have HF := Lib.hid hf
    clear hf
    by_cases hlt : k < 8
    · obtain ⟨a, l, c, hix⟩ := HIX.out k hlt
      have HD := Lib.hid (findFrom_drop s names k _ (HNM.out k hlt))
      have h1 := hb.size
      generalize nameOf k = x at *
      by_cases hx : x.toList = s.toList
      · have hxb : (x.toList == s.toList) = true := by rw [hx]; simp
        have HX := Lib.hid hx
        clear hx
        go_wp2
        go_ret2
        refine ⟨?_, hb.alloc hb.size _⟩
        rw [HF.out, HD.out, if_pos HX.out]
        exact ret_ib (by omega) (by simp)
      · have hxb : (x.toList == s.toList) = false := by simpa using hx
        have HX := Lib.hid hx
        clear hx
        go_wp2
        exact ⟨⟨k + 1, by omega, by go_num, by rw [HF.out, HD.out, if_neg HX.out], hb.alloc hb.size _⟩, by simp [intOf]; omega⟩
    · obtain rfl : k = 8 := by omega
      go_wp2
      go_ret2
      refine ⟨?_, hb⟩
      rw [HF.out]; rfl
end Go.Proofs.YtlmbdpncbmfopaaDoor
