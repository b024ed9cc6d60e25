/- Two stores and the document's two, apart in memory: what a call of one pair leaves of the other. -/
import Derived.Test.YtgifckledbopmaaCopy
namespace Go.Proofs.Ytgifckledbopmaa
open Go.RowKit

/-- What one pair may change is none of the other's. -/
def Apart (g : Nat) (v : Value) (b c : Nat) (u : Value) (e : Nat) (lu : Value) : Prop := ∀ k, (mine g v k ∨ k = b) → ¬ (mine c u k ∨ k = e ∨ lu.ownBlock = some k)

structure DuoAt (W : World) (g b : Nat) (v lv : Value) (S : Sto) (c e : Nat) (u lu : Value) (T : Sto) (w : World) : Prop where
  one : PlaysAt W g b v lv S w
  two : PlaysAt W c e u lu T w
  ab : Apart g v b c u e lu
  ba : Apart c u e g v b lv

def Duo (W : World) (g b : Nat) (S : Sto) (c e : Nat) (T : Sto) (w : World) : Prop := ∃ v lv u lu, DuoAt W g b v lv S c e u lu T w

theorem DuoAt.swap {W w : World} {g b c e : Nat} {v lv u lu : Value} {S T : Sto} (h : DuoAt W g b v lv S c e u lu T w) : DuoAt W c e u lu T g b v lv S w := ⟨h.two, h.one, h.ba, h.ab⟩
theorem Duo.swap {W w : World} {g b c e : Nat} {S T : Sto} (h : Duo W g b S c e T w) : Duo W c e T g b S w := by
  obtain ⟨v, lv, u, lu, h⟩ := h
  exact ⟨u, lu, v, lv, h.swap⟩
theorem DuoAt.more {W w w' : World} {g b c e : Nat} {v lv u lu : Value} {S T : Sto} (h : DuoAt W g b v lv S c e u lu T w) (hb : Below w.heap.size w w') : DuoAt W g b v lv S c e u lu T w' := ⟨h.one.more hb, h.two.more hb, h.ab, h.ba⟩

theorem PlaysAt.kept {W w w' : World} {g b : Nat} {v lv : Value} {S : Sto} {X : Nat → Prop} (h : PlaysAt W g b v lv S w) (hk : Kept X w w') (hX : ∀ k, (mine g v k ∨ k = b ∨ lv.ownBlock = some k) → ¬ X k) (hW : ∀ k, k < W.heap.size → ¬ X k) : PlaysAt W g b v lv S w' := by
  refine ⟨⟨h.pair.store.keep hk (fun k hm => hX k (.inl hm)), ⟨h.pair.ref.row.keep fun k hl => hk.block k (h.pair.ref.row.lt k hl) (hX k (.inr (.inr hl))), h.pair.ref.len, h.pair.ref.le, h.pair.ref.fuse⟩, h.pair.apart⟩, (hk.block b (heap_lt h.box) (hX b (.inr (.inl rfl)))).trans h.box, h.far, h.apart, h.hg, h.hb, ?_, h.hv, h.hl⟩
  exact h.below.trans ⟨hk.os, hk.tape, hk.output, hk.size, fun k hlt => hk.block k (Nat.lt_of_lt_of_le hlt h.below.size) (hW k hlt)⟩

theorem duo_next {W wr X w5 F : World} {g b c e : Nat} {v lv u lu lv' : Value} {S T S' : Sto} (h : DuoAt W g b v lv S c e u lu T wr) (hX : Below wr.heap.size wr X) (hd : DoAfter X g v lv S' lv' w5)
    (hF : Kept (fun k => k = b ∨ wr.heap.size ≤ k ∧ k < X.heap.size ∨ w5.heap.size ≤ k) w5 F)
    (hbox : F.heap[b]? = some (.cells #[lv', .int .i64 S'.last, .int .i64 S'.fuse, .bool S'.down] 42 (0, 0))) : ∃ v', DuoAt W g b v' lv' S' c e u lu T F := by
  obtain ⟨v', hp, hv, hl⟩ : ∃ v', PlaysAt W g b v' lv' S' F ∧ (∀ k, v'.ownBlock = some k → v.ownBlock = some k ∨ wr.heap.size ≤ k) ∧ ∀ k, lv'.ownBlock = some k → lv.ownBlock = some k ∨ wr.heap.size ≤ k := by
    obtain ⟨v', hp⟩ := plays_next h.one hX hd hF hbox
    obtain ⟨v2, hp2, _, hv2, hl2⟩ := hd
    have s1 := hX.size
    have hgk := hp2.store
    obtain rfl : v' = v2 := by
      have a1 := hp.pair.store.cell.1
      have gb : g ≠ b := fun e => h.one.far (.inl e.symm)
      have glt := hgk.lt
      have gwr := h.one.pair.store.lt
      have a2 := (World.cell?_of_block (w := w5) (a := ⟨g, 0, none⟩) (hF.block g glt (by rintro (hx | hx | hx) <;> omega))).trans hgk.cell.1
      exact Option.some.inj (a1.symm.trans a2)
    exact ⟨v', hp, fun k hk => (hv2 k hk).imp id (by omega), fun k hk => (hl2 k hk).imp id (by omega)⟩
  have hk : Kept (fun k => mine g v k ∨ k = b) wr F := by
    obtain ⟨v2, hp2, hk2, _, _⟩ := hd
    have s1 := hX.size
    have s2 := hk2.size
    refine ⟨hF.os.trans (hk2.os.trans hX.os), hF.tape.trans (hk2.tape.trans hX.tape), hF.output.trans (hk2.output.trans hX.output), by have := hF.size; omega, fun k hlt hx => ?_⟩
    rw [hF.block k (by omega) (by rintro (h1 | h1 | h1); exact hx (.inr h1); omega; omega), hk2.block k (by omega) (fun h1 => hx (.inl h1)), hX.block k hlt]
  have tw := h.two
  have hlu := tw.pair.ref.row.lt
  have hmu := tw.pair.mine_lt
  have hee := heap_lt tw.box
  have lt2 : ∀ k, (mine c u k ∨ k = e ∨ lu.ownBlock = some k) → k < wr.heap.size := by
    rintro k (h1 | rfl | h1)
    · exact hmu k h1
    · exact hee
    · exact hlu k h1
  refine ⟨v', hp, tw.kept hk (fun k h1 h2 => h.ab k h2 h1) ?_, ?_, ?_⟩
  · intro k hk1 hx
    have a1 := h.one.hg
    have a2 := h.one.hb
    have a3 := h.one.hv
    rcases hx with (rfl | hx) | rfl
    · omega
    · have := a3 k hx; omega
    · omega
  · rintro k h1 h2
    have hlt := lt2 k h2
    refine h.ab k ?_ h2
    rcases h1 with (h1 | h1) | h1
    · exact .inl (.inl h1)
    · rcases hv k h1 with h3 | h3
      · exact .inl (.inr h3)
      · omega
    · exact .inr h1
  · rintro k h1 h2
    have hlt : k < wr.heap.size := lt2 k (h1.elim .inl (fun e => .inr (.inl e)))
    refine h.ba k h1 ?_
    rcases h2 with (h2 | h2) | h2 | h2
    · exact .inl (.inl h2)
    · rcases hv k h2 with h3 | h3
      · exact .inl (.inr h3)
      · omega
    · exact .inr (.inl h2)
    · rcases hl k h2 with h3 | h3
      · exact .inr (.inr h3)
      · omega
end Go.Proofs.Ytgifckledbopmaa
