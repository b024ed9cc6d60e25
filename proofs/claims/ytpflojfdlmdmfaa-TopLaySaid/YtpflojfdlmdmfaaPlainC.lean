/- The plain law: right stretches, cut, put together again, are right, and use the same. -/
import Derived.Test.YtpflojfdlmdmfaaPlain
import Derived.Test.YtpflojfdlmdmfaaCut
namespace Go.Proofs.Ytpflojfdlmdmfaa

/-- A right stretch. -/
def okS (x : St) : Prop := 0 ≤ x.f ∧ x.f < x.t ∧ x.t ≤ 1048576 ∧ 0 ≤ x.h ∧ x.h ≤ 2
/-- Right stretches, one behind the other. -/
def Path : Int → List St → Int → Prop
  | a, [], b => a = b
  | a, x :: l, b => x.f = a ∧ okS x ∧ Path x.t l b
theorem path_append {a b : Int} {l l' : List St} : Path a (l ++ l') b ↔ ∃ c, Path a l c ∧ Path c l' b := by
  induction l generalizing a with
  | nil => exact ⟨fun h => ⟨a, rfl, h⟩, fun ⟨c, h1, h2⟩ => by cases h1; exact h2⟩
  | cons x l ih =>
    constructor
    · rintro ⟨h1, h2, h3⟩
      obtain ⟨c, h4, h5⟩ := ih.1 h3
      exact ⟨c, ⟨h1, h2, h4⟩, h5⟩
    · rintro ⟨c, ⟨h1, h2, h4⟩, h5⟩
      exact ⟨h1, h2, ih.2 ⟨c, h4, h5⟩⟩
theorem path_get {a b : Int} {l : List St} (h : Path a l b) : ∀ j, j < l.length → okS (l.getD j ⟨0, 0, 0⟩) ∧ (0 < j → (l.getD (j - 1) ⟨0, 0, 0⟩).t = (l.getD j ⟨0, 0, 0⟩).f) ∧ (j = 0 → (l.getD j ⟨0, 0, 0⟩).f = a) := by
  induction l generalizing a with
  | nil => intro j hj; simp at hj
  | cons x l ih =>
    obtain ⟨h1, h2, h3⟩ := h
    intro j hj
    cases j with
    | zero => exact ⟨h2, fun h => absurd h (by omega), fun _ => h1⟩
    | succ j =>
      obtain ⟨g1, g2, g3⟩ := ih h3 j (by simpa using hj)
      refine ⟨g1, fun _ => ?_, fun h => absurd h (by omega)⟩
      cases j with
      | zero => exact (g3 rfl).symm
      | succ j => exact g2 (by omega)
theorem path_right {a b : Int} {l : List St} (h : Path a l b) (hl : l.length ≤ 4096) : ∀ j, j < l.length → wrongE (fun j => l.getD j ⟨0, 0, 0⟩) j = 0 := fun j hj => by
  obtain ⟨⟨h1, h2, h3, h4, h5⟩, h6, _⟩ := path_get h j hj
  unfold wrongE
  simp only
  rw [if_neg (by omega), if_neg (by omega), if_neg (fun h => h.2 (h6 h.1))]
theorem path_le {a b : Int} {l : List St} (h : Path a l b) : a ≤ b := by
  induction l generalizing a with
  | nil => cases h; omega
  | cons x l ih => obtain ⟨h1, h2, h3⟩ := h; have := ih h3; have := h2.2.1; omega

/-- The list of the first stretches. -/
def listN (ss : Nat → St) : Nat → List St
  | 0 => []
  | k + 1 => listN ss k ++ [ss k]
theorem listN_length (ss : Nat → St) (n : Nat) : (listN ss n).length = n := by
  induction n with
  | zero => rfl
  | succ n ih => simp [listN, ih]
/-- The hour behind the first stretches. -/
def endN (ss : Nat → St) (k : Nat) : Int := if k = 0 then (ss 0).f else (ss (k - 1)).t
theorem ok_of {ss : Nat → St} {k : Nat} (h : wrongE ss k = 0) : okS (ss k) ∧ (ss k).f = endN ss k := by
  obtain ⟨h1, h2, _⟩ := right_of h
  refine ⟨h1, ?_⟩
  unfold endN
  by_cases hk : k = 0
  · rw [if_pos hk, hk]
  · rw [if_neg hk, h2 (by omega)]
theorem endN_succ (ss : Nat → St) (k : Nat) : endN ss (k + 1) = (ss k).t := by unfold endN; rw [if_neg (by omega), Nat.add_sub_cancel]
theorem path_listN {ss : Nat → St} {n : Nat} (h : ∀ j, j < n → wrongE ss j = 0) : ∀ k, k ≤ n → Path (ss 0).f (listN ss k) (endN ss k) := by
  intro k
  induction k with
  | zero => intro _; show (ss 0).f = endN ss 0; unfold endN; rw [if_pos rfl]
  | succ k ih =>
    intro hk
    obtain ⟨h1, h2⟩ := ok_of (h k (by omega))
    refine path_append.2 ⟨endN ss k, ih (by omega), h2, h1, ?_⟩
    show (ss k).t = _
    rw [endN_succ]

/-- Each stretch cut, in its place. -/
def flatN (m : Int) (ss : Nat → St) : Nat → List St
  | 0 => []
  | k + 1 => flatN m ss k ++ (cutF m (ss k) ++ cutS m (ss k))
theorem cut_cases (m : Int) (x : St) (_ : x.f < x.t) : (x.f < m ∧ m < x.t ∧ cutF m x = [⟨x.f, m, x.h⟩] ∧ cutS m x = [⟨m, x.t, x.h⟩]) ∨ (x.t ≤ m ∧ cutF m x = [x] ∧ cutS m x = []) ∨ (m ≤ x.f ∧ cutF m x = [] ∧ cutS m x = [x]) := by
  unfold cutF cutS
  by_cases h1 : x.f < m
  · by_cases h2 : m < x.t
    · exact .inl ⟨h1, h2, by rw [if_pos ⟨h1, h2⟩], by rw [if_pos ⟨h1, h2⟩]⟩
    · exact .inr (.inl ⟨by omega, by rw [if_neg (fun h => h2 h.2), if_pos h1], by rw [if_neg (fun h => h2 h.2), if_pos h1]⟩)
  · exact .inr (.inr ⟨by omega, by rw [if_neg (fun h => h1 h.1), if_neg h1], by rw [if_neg (fun h => h1 h.1), if_neg h1]⟩)
theorem path_cut (m : Int) {x : St} (h : okS x) : Path x.f (cutF m x ++ cutS m x) x.t := by
  obtain ⟨h1, h2, h3, h4, h5⟩ := h
  rcases cut_cases m x h2 with ⟨c1, c2, e1, e2⟩ | ⟨c1, e1, e2⟩ | ⟨c1, e1, e2⟩ <;> rw [e1, e2]
  · exact ⟨rfl, ⟨h1, c1, by show m ≤ _; omega, h4, h5⟩, rfl, ⟨by show 0 ≤ m; omega, c2, h3, h4, h5⟩, rfl⟩
  · exact ⟨rfl, ⟨h1, h2, h3, h4, h5⟩, rfl⟩
  · exact ⟨rfl, ⟨h1, h2, h3, h4, h5⟩, rfl⟩
theorem path_flatN (m : Int) {ss : Nat → St} {n : Nat} (h : ∀ j, j < n → wrongE ss j = 0) : ∀ k, k ≤ n → Path (ss 0).f (flatN m ss k) (endN ss k) := by
  intro k
  induction k with
  | zero => intro _; show (ss 0).f = endN ss 0; unfold endN; rw [if_pos rfl]
  | succ k ih =>
    intro hk
    obtain ⟨h1, h2⟩ := ok_of (h k (by omega))
    refine path_append.2 ⟨endN ss k, ih (by omega), ?_⟩
    rw [endN_succ, ← h2]
    exact path_cut m h1
theorem cutB_nil (m : Int) {ss : Nat → St} {n : Nat} (h : ∀ j, j < n → wrongE ss j = 0) : ∀ k, k ≤ n → endN ss k ≤ m → (k = 0 ∨ endN ss k ≤ m) → cutB m ss k = [] := by
  intro k
  induction k with
  | zero => intro _ _ _; rfl
  | succ k ih =>
    intro hk he _
    obtain ⟨h1, h2⟩ := ok_of (h k (by omega))
    rw [endN_succ] at he
    have hlt := h1.2.1
    show cutB m ss k ++ cutS m (ss k) = []
    rw [ih (by omega) (by omega) (.inr (by omega))]
    rcases cut_cases m (ss k) hlt with ⟨c1, c2, e1, e2⟩ | ⟨c1, e1, e2⟩ | ⟨c1, e1, e2⟩
    · omega
    · rw [e2]; rfl
    · omega
/-- Cut, and put together again: each stretch cut, in its place. -/
theorem cut_all (m : Int) {ss : Nat → St} {n : Nat} (h : ∀ j, j < n → wrongE ss j = 0) : ∀ k, k ≤ n → cutA m ss k ++ cutB m ss k = flatN m ss k := by
  intro k
  induction k with
  | zero => intro _; rfl
  | succ k ih =>
    intro hk
    obtain ⟨h1, h2⟩ := ok_of (h k (by omega))
    show (cutA m ss k ++ cutF m (ss k)) ++ (cutB m ss k ++ cutS m (ss k)) = flatN m ss k ++ (cutF m (ss k) ++ cutS m (ss k))
    rw [← ih (by omega)]
    by_cases hf : (ss k).f < m
    · rw [cutB_nil m h k (by omega) (by omega) (.inr (by omega))]
      simp
    · rcases cut_cases m (ss k) h1.2.1 with ⟨c1, c2, e1, e2⟩ | ⟨c1, e1, e2⟩ | ⟨c1, e1, e2⟩
      · omega
      · have := h1.2.1; omega
      · rw [e1, e2]; simp

/-- What a list of stretches uses. -/
def runL (F : Int) : Int → List St → Int
  | u, [] => u
  | u, x :: l => runL F (takeU F u x) l
theorem runL_append (F : Int) (l l' : List St) (u : Int) : runL F u (l ++ l') = runL F (runL F u l) l' := by
  induction l generalizing u with
  | nil => rfl
  | cons x l ih => exact ih _
theorem runN_listN (F : Int) (ss : Nat → St) (n : Nat) : (runN F ss n).1 = runL F 0 (listN ss n) := by
  induction n with
  | zero => rfl
  | succ n ih =>
    show takeU F (runN F ss n).1 (ss n) = runL F 0 (listN ss n ++ [ss n])
    rw [runL_append, ← ih]; rfl
theorem listN_getD (l : List St) : ∀ k, k ≤ l.length → listN (fun j => l.getD j ⟨0, 0, 0⟩) k = l.take k := by
  intro k
  induction k with
  | zero => intro _; simp [listN]
  | succ k ih =>
    intro hk
    show listN _ k ++ [l.getD k ⟨0, 0, 0⟩] = _
    rw [ih (by omega), List.take_add_one, List.getD_eq_getElem?_getD, List.getElem?_eq_getElem (by omega)]
    rfl
theorem runN_list (F : Int) (l : List St) : (runN F (fun j => l.getD j ⟨0, 0, 0⟩) l.length).1 = runL F 0 l := by
  rw [runN_listN, listN_getD l l.length (Nat.le_refl _), List.take_length]

theorem hrs_add (F h u : Int) (a b : Nat) : hrs F h u (a + b) = hrs F h (hrs F h u a) b := by
  induction b with
  | zero => rfl
  | succ b ih => show hr F (hrs F h u (a + b)) h = hr F (hrs F h (hrs F h u a) b) h; rw [ih]
theorem runL_cut (F u m : Int) {x : St} (h : okS x) : runL F u (cutF m x ++ cutS m x) = takeU F u x := by
  obtain ⟨h1, h2, h3, h4, h5⟩ := h
  rcases cut_cases m x h2 with ⟨c1, c2, e1, e2⟩ | ⟨c1, e1, e2⟩ | ⟨c1, e1, e2⟩ <;> rw [e1, e2]
  · show takeU F (takeU F u ⟨x.f, m, x.h⟩) ⟨m, x.t, x.h⟩ = _
    rw [takeU_hrs (x := ⟨x.f, m, x.h⟩) c1 ⟨h4, h5⟩, takeU_hrs (x := ⟨m, x.t, x.h⟩) c2 ⟨h4, h5⟩, takeU_hrs h2 ⟨h4, h5⟩, ← hrs_add]
    congr 1
    show (m - x.f).toNat + (x.t - m).toNat = _
    omega
  · rfl
  · rfl
theorem runL_flatN (F m : Int) {ss : Nat → St} {n : Nat} (h : ∀ j, j < n → wrongE ss j = 0) : runL F 0 (flatN m ss n) = (runN F ss n).1 := by
  induction n with
  | zero => rfl
  | succ n ih =>
    show runL F 0 (flatN m ss n ++ (cutF m (ss n) ++ cutS m (ss n))) = takeU F (runN F ss n).1 (ss n)
    rw [runL_append, ih (fun j hj => h j (by omega)), runL_cut F _ m (ok_of (h n (by omega))).1]
/-- Cut and put together again, the same is used. -/
theorem cut_used (F m : Int) {ss : Nat → St} {n : Nat} (h : ∀ j, j < n → wrongE ss j = 0) : (runN F (fun j => (cutA m ss n ++ cutB m ss n).getD j ⟨0, 0, 0⟩) (cutA m ss n ++ cutB m ss n).length).1 = (runN F ss n).1 := by
  rw [runN_list, cut_all m h n (Nat.le_refl _), runL_flatN F m h]
theorem cut_right (m : Int) {ss : Nat → St} {n : Nat} (h : ∀ j, j < n → wrongE ss j = 0) (hn : n ≤ 2000) : ∀ j, j < (cutA m ss n ++ cutB m ss n).length → wrongE (fun j => (cutA m ss n ++ cutB m ss n).getD j ⟨0, 0, 0⟩) j = 0 := by
  have h1 := cutA_len m ss n
  have h2 := cutB_len m ss n
  refine path_right (a := (ss 0).f) (b := endN ss n) ?_ (by rw [List.length_append]; omega)
  rw [cut_all m h n (Nat.le_refl _)]
  exact path_flatN m h n (Nat.le_refl _)
theorem cutA_path (m : Int) {ss : Nat → St} {n : Nat} (h : ∀ j, j < n → wrongE ss j = 0) : ∃ b, Path (ss 0).f (cutA m ss n) b := by
  have h1 := path_flatN m h n (Nat.le_refl _)
  rw [← cut_all m h n (Nat.le_refl _)] at h1
  obtain ⟨c, h2, _⟩ := path_append.1 h1
  exact ⟨c, h2⟩
theorem cutA_right (m : Int) {ss : Nat → St} {n : Nat} (h : ∀ j, j < n → wrongE ss j = 0) (hn : n ≤ 4096) : ∀ j, j < (cutA m ss n).length → wrongE (fun j => (cutA m ss n).getD j ⟨0, 0, 0⟩) j = 0 := by
  obtain ⟨b, hp⟩ := cutA_path m h
  have h1 := cutA_len m ss n
  exact path_right hp (by omega)
/-- What the hours ahead use. -/
theorem cutA_used (F m : Int) {ss : Nat → St} {n : Nat} (h : ∀ j, j < n → wrongE ss j = 0) : (runN F (fun j => (cutA m ss n).getD j ⟨0, 0, 0⟩) (cutA m ss n).length).1 = useN F m ss n := by
  rw [runN_list]
  induction n with
  | zero => rfl
  | succ n ih =>
    obtain ⟨h1, h2, h3, h4, h5⟩ := (ok_of (h n (by omega))).1
    show runL F 0 (cutA m ss n ++ cutF m (ss n)) = hrs F (ss n).h (useN F m ss n) (cnt (ss n) m)
    rw [runL_append, ih (fun j hj => h j (by omega))]
    rcases cut_cases m (ss n) h2 with ⟨c1, c2, e1, e2⟩ | ⟨c1, e1, e2⟩ | ⟨c1, e1, e2⟩ <;> rw [e1]
    · show takeU F _ ⟨(ss n).f, m, (ss n).h⟩ = _
      rw [takeU_hrs (x := ⟨(ss n).f, m, (ss n).h⟩) c1 ⟨h4, h5⟩]
      congr 1
      show (m - (ss n).f).toNat = _
      unfold cnt
      omega
    · show takeU F _ (ss n) = _
      rw [takeU_hrs h2 ⟨h4, h5⟩]
      congr 1
      unfold cnt
      omega
    · have : cnt (ss n) m = 0 := by unfold cnt; omega
      rw [this]; rfl
theorem cutA_bnd (m : Int) (hm : i64b m) {ss : Nat → St} : ∀ n, (∀ j, j < n → i64b (ss j).f ∧ i64b (ss j).t ∧ i64b (ss j).h) → (∀ x ∈ cutA m ss n, i64b x.f ∧ i64b x.t ∧ i64b x.h) ∧ (∀ x ∈ cutB m ss n, i64b x.f ∧ i64b x.t ∧ i64b x.h) := by
  intro n
  induction n with
  | zero => intro _; exact ⟨(fun x hx => by cases hx), (fun x hx => by cases hx)⟩
  | succ n ih =>
    intro h
    obtain ⟨i1, i2⟩ := ih (fun j hj => h j (by omega))
    obtain ⟨b1, b2, b3⟩ := h n (by omega)
    refine ⟨fun x hx => ?_, fun x hx => ?_⟩
    · rcases List.mem_append.1 hx with hx | hx
      · exact i1 x hx
      · unfold cutF at hx
        split at hx
        · simp at hx; subst hx; exact ⟨b1, hm, b3⟩
        · split at hx
          · simp at hx; subst hx; exact ⟨b1, b2, b3⟩
          · cases hx
    · rcases List.mem_append.1 hx with hx | hx
      · exact i2 x hx
      · unfold cutS at hx
        split at hx
        · simp at hx; subst hx; exact ⟨hm, b2, b3⟩
        · split at hx
          · cases hx
          · simp at hx; subst hx; exact ⟨b1, b2, b3⟩
end Go.Proofs.Ytpflojfdlmdmfaa
