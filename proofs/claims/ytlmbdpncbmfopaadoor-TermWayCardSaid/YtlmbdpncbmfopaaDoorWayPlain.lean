/- The plain law of TermWay: along a chain from the seller over others to the buyer, the one who bears the loss is at first the seller, and once it is the buyer, the buyer for good. -/
import Derived.Test.YtlmbdpncbmfopaaDoorWalks
namespace Go.Proofs.YtlmbdpncbmfopaaDoor

abbrev Hands := List (ByteArray × Int)
/-- Who has the box as of a day. -/
def scan (loss : Int) : Hands → Option ByteArray → Option ByteArray
  | [], acc => acc
  | p :: r, acc => scan loss r (if p.2 ≤ loss then some p.1 else acc)
def stNum (who fr to : ByteArray) : Int := if who = fr then 0 else if who = to then 7 else 3
/-- Who bears the loss. -/
def bearS (t : Int) (fr to : ByteArray) : Option ByteArray → ByteArray
  | none => eS
  | some who => if stNum who fr to < riskOf t then fr else to

theorem scan_append (loss : Int) (a b : Hands) (acc : Option ByteArray) : scan loss (a ++ b) acc = scan loss b (scan loss a acc) := by
  induction a generalizing acc with
  | nil => rfl
  | cons p r ih => exact ih _

theorem scan_some (loss : Int) (l : Hands) (x : ByteArray) : (scan loss l (some x)).isSome = true := by
  induction l generalizing x with
  | nil => rfl
  | cons p r ih =>
    unfold scan
    split
    · exact ih _
    · exact ih _

theorem scan_none (loss : Int) (l : Hands) (h : ∀ p ∈ l, ¬ p.2 ≤ loss) (acc : Option ByteArray) : scan loss l acc = acc := by
  induction l generalizing acc with
  | nil => rfl
  | cons p r ih =>
    unfold scan
    rw [if_neg (h p (by simp))]
    exact ih (fun q hq => h q (by simp [hq])) acc

/-- Its number falls into the seller's, another's or the buyer's place. -/
def rk (fr to : ByteArray) : Option ByteArray → Nat
  | none => 0
  | some who => if who = fr then 1 else if who = to then 3 else 2

theorem rk_some (fr to w : ByteArray) : rk fr to (some w) = if w = fr then 1 else if w = to then 3 else 2 := rfl
theorem bearS_some (t : Int) (fr to w : ByteArray) : bearS t fr to (some w) = if stNum w fr to < riskOf t then fr else to := rfl

theorem scan_rises (fr to : ByteArray) (d e : Int) (hde : d ≤ e) (l : Hands) : ∀ (a b : Option ByteArray),
    rk fr to a ≤ rk fr to b → (∀ p ∈ l, rk fr to b ≤ rk fr to (some p.1)) → (l.map fun p => rk fr to (some p.1)).Pairwise (· ≤ ·) →
    rk fr to (scan d l a) ≤ rk fr to (scan e l b) := by
  induction l with
  | nil => exact fun a b h _ _ => h
  | cons p r ih =>
    intro a b hab hb hp
    simp only [List.map_cons, List.pairwise_cons] at hp
    have hr : ∀ q ∈ r, rk fr to (some p.1) ≤ rk fr to (some q.1) := fun q hq => hp.1 _ (List.mem_map.2 ⟨q, hq, rfl⟩)
    have hbr : ∀ q ∈ r, rk fr to b ≤ rk fr to (some q.1) := fun q hq => hb q (by simp [hq])
    have hbp : rk fr to b ≤ rk fr to (some p.1) := hb p (by simp)
    unfold scan
    by_cases h1 : p.2 ≤ d
    · rw [if_pos h1, if_pos (by omega)]
      exact ih _ _ (Nat.le_refl _) hr hp.2
    · rw [if_neg h1]
      by_cases h2 : p.2 ≤ e
      · rw [if_pos h2]
        exact ih _ _ (Nat.le_trans hab hbp) hr hp.2
      · rw [if_neg h2]
        exact ih _ _ hab hbr hp.2

/-- The chain's middle: the others with their days. -/
def mids (os : Nat → ByteArray) (ds : Nat → Int) (k : Nat) : Hands := (List.range k).map fun i => (os i, ds (i + 1))
def chainTo (fr : ByteArray) (os : Nat → ByteArray) (ds : Nat → Int) (k : Nat) : Hands := (fr, ds 0) :: mids os ds k
def chainAll (fr to : ByteArray) (os : Nat → ByteArray) (ds : Nat → Int) (n : Nat) : Hands := chainTo fr os ds n ++ [(to, ds (n + 1))]
theorem chainTo_succ (fr : ByteArray) (os : Nat → ByteArray) (ds : Nat → Int) (k : Nat) : chainTo fr os ds (k + 1) = chainTo fr os ds k ++ [(os k, ds (k + 1))] := by
  unfold chainTo mids
  rw [List.range_succ, List.map_append]
  rfl
theorem chainTo_length (fr : ByteArray) (os : Nat → ByteArray) (ds : Nat → Int) (k : Nat) : (chainTo fr os ds k).length = k + 1 := by simp [chainTo, mids]
theorem chainAll_length (fr to : ByteArray) (os : Nat → ByteArray) (ds : Nat → Int) (k : Nat) : (chainAll fr to os ds k).length = k + 2 := by simp [chainAll, chainTo_length]

section
variable {fr to : ByteArray} {os : Nat → ByteArray} {ds : Nat → Int} {n : Nat}

theorem mid_rk (hne : ∀ i, i < n → os i ≠ fr ∧ os i ≠ to) : ∀ p ∈ mids os ds n, rk fr to (some p.1) = 2 := by
  intro p hp
  obtain ⟨i, hi, rfl⟩ := List.mem_map.1 hp
  obtain ⟨h1, h2⟩ := hne i (List.mem_range.1 hi)
  rw [rk_some, if_neg h1, if_neg h2]

theorem chain_pairwise (hft : fr ≠ to) (hne : ∀ i, i < n → os i ≠ fr ∧ os i ≠ to) :
    ((chainAll fr to os ds n).map fun p => rk fr to (some p.1)).Pairwise (· ≤ ·) := by
  have r1 : rk fr to (some fr) = 1 := by simp [rk]
  have r3 : rk fr to (some to) = 3 := by rw [rk_some, if_neg (Ne.symm hft), if_pos rfl]
  have hm := mid_rk (ds := ds) hne
  have hmid : ∀ x ∈ (mids os ds n).map (fun p => rk fr to (some p.1)), x = 2 := by
    intro x hx
    obtain ⟨p, hp, rfl⟩ := List.mem_map.1 hx
    exact hm p hp
  unfold chainAll chainTo
  simp only [List.cons_append, List.map_cons, List.map_append, List.map_nil, r1, r3, List.pairwise_cons, List.pairwise_append]
  refine ⟨?_, ?_, by simp, ?_⟩
  · intro x hx
    rcases List.mem_append.1 hx with h | h
    · rw [hmid x h]; omega
    · simp at h; omega
  · generalize (mids os ds n).map (fun p => rk fr to (some p.1)) = l at hmid
    induction l with
    | nil => exact List.Pairwise.nil
    | cons a r ih =>
      rw [List.pairwise_cons]
      refine ⟨fun b hb => ?_, ih fun x hx => hmid x (by simp [hx])⟩
      rw [hmid a (by simp), hmid b (by simp [hb])]; omega
  · intro a ha b hb
    rw [hmid a ha]
    simp at hb; omega

theorem day_first (hs : ∀ i, i < n + 1 → ds i ≤ ds (i + 1)) : ∀ i, i ≤ n + 1 → ds 0 ≤ ds i := by
  intro i
  induction i with
  | zero => intro _; omega
  | succ i ih =>
    intro hi
    have := ih (by omega)
    have := hs i (by omega)
    omega

theorem scan_isSome (loss : Int) (hs : ∀ i, i < n + 1 → ds i ≤ ds (i + 1)) : (scan loss (chainAll fr to os ds n) none).isSome = decide (ds 0 ≤ loss) := by
  by_cases h : ds 0 ≤ loss
  · rw [decide_eq_true h]
    unfold chainAll chainTo
    rw [List.cons_append]
    unfold scan
    rw [if_pos h]
    exact scan_some _ _ _
  · rw [decide_eq_false h]
    rw [scan_none]
    · rfl
    · intro p hp
      have hf := day_first hs
      unfold chainAll chainTo mids at hp
      simp only [List.cons_append, List.mem_cons, List.mem_append, List.mem_map, List.mem_range, List.not_mem_nil, or_false] at hp
      rcases hp with rfl | ⟨i, hi, rfl⟩ | rfl
      · exact h
      · have := hf (i + 1) (by omega)
        show ¬ ds (i + 1) ≤ loss
        omega
      · have := hf (n + 1) (by omega)
        show ¬ ds (n + 1) ≤ loss
        omega
end

theorem risk_bd (t : Int) (hi : inT t = true) : 1 ≤ riskOf t ∧ riskOf t ≤ 7 := by
  have h1 : ∀ i : Fin 8, 1 ≤ riskOf (i.val : Int) ∧ riskOf (i.val : Int) ≤ 7 := by decide +kernel
  obtain ⟨a0, a1⟩ := (inT_iff t).1 hi
  obtain ⟨i, rfl⟩ := Int.eq_ofNat_of_zero_le a0
  exact h1 ⟨i, by omega⟩

theorem bear_or (t : Int) (fr to : ByteArray) (o : Option ByteArray) (h : o.isSome = true) : bearS t fr to o = fr ∨ bearS t fr to o = to := by
  cases o with
  | none => cases h
  | some w =>
    rw [bearS_some]
    split
    · exact .inl rfl
    · exact .inr rfl

/-- Whose number is greater bears no less. -/
theorem bear_rises (t : Int) (hi : inT t = true) (fr to : ByteArray) (hft : fr ≠ to) (a b : Option ByteArray) (ha : a.isSome = true) (h : rk fr to a ≤ rk fr to b) (hto : bearS t fr to a = to) : bearS t fr to b = to := by
  obtain ⟨r1, r7⟩ := risk_bd t hi
  have st : ∀ x, bearS t fr to (some x) = to ↔ ¬ stNum x fr to < riskOf t := by
    intro x
    rw [bearS_some]
    by_cases hx : stNum x fr to < riskOf t
    · rw [if_pos hx]; exact ⟨fun e => absurd e hft, fun e => absurd hx e⟩
    · rw [if_neg hx]; exact ⟨fun _ => hx, fun _ => rfl⟩
  cases a with
  | none => cases ha
  | some x =>
    cases b with
    | none =>
      rw [rk_some] at h
      have h' : (if x = fr then 1 else if x = to then 3 else 2) ≤ 0 := h
      split at h'
      · omega
      · split at h' <;> omega
    | some y =>
      rw [st] at hto ⊢
      unfold stNum at hto ⊢
      rw [rk_some, rk_some] at h
      by_cases hx : x = fr
      · rw [if_pos hx] at hto; omega
      · rw [if_neg hx] at hto h
        by_cases hy : y = fr
        · rw [if_pos hy] at h
          split at h <;> omega
        · rw [if_neg hy] at h ⊢
          by_cases hy2 : y = to
          · rw [if_pos hy2]; omega
          · rw [if_neg hy2] at h ⊢
            by_cases hx2 : x = to
            · rw [if_pos hx2] at h; omega
            · rw [if_neg hx2] at hto; exact hto

/-- THE LAW: the cases that can be. -/
theorem way_cases (t : Int) (hi : inT t = true) (fr to : ByteArray) (hft : fr ≠ to) (os : Nat → ByteArray) (ds : Nat → Int) (n : Nat) (d e : Int) (hde : d ≤ e)
    (hne : ∀ i, i < n → os i ≠ fr ∧ os i ≠ to) (hs : ∀ i, i < n + 1 → ds i ≤ ds (i + 1)) :
    let A := bearS t fr to (scan d (chainAll fr to os ds n) none)
    let B := bearS t fr to (scan e (chainAll fr to os ds n) none)
    let d0 := ds 0
    (d < d0 ∧ e < d0) ∨ (d < d0 ∧ d0 ≤ e ∧ B = fr) ∨ (d < d0 ∧ d0 ≤ e ∧ B = to) ∨ (d0 ≤ d ∧ A = fr ∧ B = fr) ∨ (d0 ≤ d ∧ A = fr ∧ B = to) ∨ (d0 ≤ d ∧ A = to ∧ B = to) := by
  intro A B d0
  have hA := scan_isSome (fr := fr) (to := to) (os := os) d hs
  have hB := scan_isSome (fr := fr) (to := to) (os := os) e hs
  by_cases h1 : d0 ≤ d
  · have h2 : d0 ≤ e := by omega
    rw [decide_eq_true h1] at hA
    rw [decide_eq_true h2] at hB
    have ha := bear_or t fr to _ hA
    have hb := bear_or t fr to _ hB
    have hr := scan_rises fr to d e hde (chainAll fr to os ds n) none none (Nat.le_refl _) (fun p _ => Nat.zero_le _) (chain_pairwise hft hne)
    rcases ha with ha | ha
    · rcases hb with hb | hb
      · exact .inr (.inr (.inr (.inl ⟨h1, ha, hb⟩)))
      · exact .inr (.inr (.inr (.inr (.inl ⟨h1, ha, hb⟩))))
    · exact .inr (.inr (.inr (.inr (.inr ⟨h1, ha, bear_rises t hi fr to hft _ _ hA hr ha⟩))))
  · by_cases h2 : d0 ≤ e
    · rw [decide_eq_true h2] at hB
      rcases bear_or t fr to _ hB with hb | hb
      · exact .inr (.inl ⟨by omega, h2, hb⟩)
      · exact .inr (.inr (.inl ⟨by omega, h2, hb⟩))
    · exact .inl ⟨by omega, by omega⟩
end Go.Proofs.YtlmbdpncbmfopaaDoor
