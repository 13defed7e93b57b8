/- The mathematics of a row of bits: longest common lists, the carries of a sum, one row more. -/

namespace Go.Proofs.BitsMath
def lcs : List Int → List Int → Nat
  | [], _ => 0
  | _ :: _, [] => 0
  | x :: xs, y :: ys => if x = y then lcs xs ys + 1 else max (lcs xs (y :: ys)) (lcs (x :: xs) ys)
termination_by a b => a.length + b.length
theorem lcs_nil_left (b : List Int) : lcs [] b = 0 := by rw [lcs]
theorem lcs_nil_right (a : List Int) : lcs a [] = 0 := by cases a <;> rw [lcs]
theorem lcs_cons (x y : Int) (xs ys : List Int) : lcs (x :: xs) (y :: ys) = if x = y then lcs xs ys + 1 else max (lcs xs (y :: ys)) (lcs (x :: xs) ys) := by rw [lcs]
/-- A common list is there that long. -/
theorem lcs_attained : ∀ (a b : List Int), ∃ l : List Int, l.Sublist a ∧ l.Sublist b ∧ l.length = lcs a b
  | [], b => ⟨[], List.nil_sublist _, List.nil_sublist _, by rw [lcs_nil_left]; rfl⟩
  | x :: xs, [] => ⟨[], List.nil_sublist _, List.nil_sublist _, by rw [lcs_nil_right]; rfl⟩
  | x :: xs, y :: ys => by
    rw [lcs_cons]
    by_cases h : x = y
    · subst h
      obtain ⟨l, h1, h2, h3⟩ := lcs_attained xs ys
      exact ⟨x :: l, h1.cons_cons x, h2.cons_cons x, by rw [if_pos rfl, ← h3]; rfl⟩
    · rw [if_neg h]
      rcases Nat.le_total (lcs xs (y :: ys)) (lcs (x :: xs) ys) with hle | hle
      · obtain ⟨l, h1, h2, h3⟩ := lcs_attained (x :: xs) ys
        exact ⟨l, h1, h2.cons y, by rw [h3]; omega⟩
      · obtain ⟨l, h1, h2, h3⟩ := lcs_attained xs (y :: ys)
        exact ⟨l, h1.cons x, h2, by rw [h3]; omega⟩
termination_by a b => a.length + b.length
theorem lcs_near (n : Nat) : ∀ (a b : List Int), a.length + b.length ≤ n → (∀ y, lcs a b ≤ lcs a (y :: b) ∧ lcs a (y :: b) ≤ lcs a b + 1) ∧ (∀ x, lcs a b ≤ lcs (x :: a) b ∧ lcs (x :: a) b ≤ lcs a b + 1) := by
  induction n with
  | zero =>
    intro a b h
    have ha : a = [] := List.length_eq_zero_iff.1 (by omega)
    have hb : b = [] := List.length_eq_zero_iff.1 (by omega)
    subst ha hb
    simp [lcs_nil_left, lcs_nil_right]
  | succ n ih =>
    have right : ∀ (a b : List Int), a.length + b.length ≤ n + 1 → ∀ y, lcs a b ≤ lcs a (y :: b) ∧ lcs a (y :: b) ≤ lcs a b + 1 := by
      intro a b h y
      cases a with
      | nil => simp [lcs_nil_left]
      | cons x xs =>
        simp only [List.length_cons] at h
        have h1 := (ih xs b (by omega)).1 y
        have h2 := (ih xs b (by omega)).2 x
        rw [lcs_cons]
        split <;> omega
    have left : ∀ (a b : List Int), a.length + b.length ≤ n + 1 → ∀ x, lcs a b ≤ lcs (x :: a) b ∧ lcs (x :: a) b ≤ lcs a b + 1 := by
      intro a b h x
      cases b with
      | nil => simp [lcs_nil_right]
      | cons y ys =>
        simp only [List.length_cons] at h
        have h1 := (ih a ys (by omega)).1 y
        have h2 := (ih a ys (by omega)).2 x
        rw [lcs_cons]
        split <;> omega
    exact fun a b h => ⟨right a b h, left a b h⟩
theorem lcs_right (a b : List Int) (y : Int) : lcs a b ≤ lcs a (y :: b) ∧ lcs a (y :: b) ≤ lcs a b + 1 := (lcs_near _ a b (Nat.le_refl _)).1 y
theorem lcs_left (a b : List Int) (x : Int) : lcs a b ≤ lcs (x :: a) b ∧ lcs (x :: a) b ≤ lcs a b + 1 := (lcs_near _ a b (Nat.le_refl _)).2 x
theorem lcs_le : ∀ (a b l : List Int), l.Sublist a → l.Sublist b → l.length ≤ lcs a b
  | [], b, l, h1, _ => by
    have := List.sublist_nil.1 h1
    subst this; exact Nat.zero_le _
  | x :: xs, [], l, _, h2 => by
    have := List.sublist_nil.1 h2
    subst this; exact Nat.zero_le _
  | x :: xs, y :: ys, l, h1, h2 => by
    have e1 := lcs_left xs (y :: ys) x
    have e2 := lcs_right (x :: xs) ys y
    rcases List.sublist_cons_iff.1 h1 with h1 | ⟨l1, rfl, h1⟩
    · have := lcs_le xs (y :: ys) l h1 h2; omega
    · rcases List.sublist_cons_iff.1 h2 with h2 | ⟨l2, he, h2⟩
      · have := lcs_le (x :: xs) ys (x :: l1) h1 h2; omega
      · injection he with he1 he2
        subst he1 he2
        have := lcs_le xs ys l1 (List.cons_sublist_cons.1 h1) h2
        rw [lcs_cons, if_pos rfl]
        simp only [List.length_cons]; omega
termination_by a b => a.length + b.length
theorem lcs_reverse (a b : List Int) : lcs a.reverse b.reverse = lcs a b := by
  apply Nat.le_antisymm
  · obtain ⟨l, h1, h2, h3⟩ := lcs_attained a.reverse b.reverse
    rw [← h3]
    have := lcs_le a b l.reverse (by simpa using h1.reverse) (by simpa using h2.reverse)
    simpa using this
  · obtain ⟨l, h1, h2, h3⟩ := lcs_attained a b
    rw [← h3]
    have := lcs_le a.reverse b.reverse l.reverse h1.reverse h2.reverse
    simpa using this

/-- The carry into each place of a sum. -/
def cry (c : Bool) (A B : Nat) : Nat → Bool
  | 0 => c
  | j + 1 => cry (A.testBit 0 && B.testBit 0 || A.testBit 0 && c || B.testBit 0 && c) (A / 2) (B / 2) j
theorem testBit_half (A j : Nat) : (A / 2).testBit j = A.testBit (j + 1) := by rw [Nat.testBit_succ]
theorem cry_succ (j : Nat) : ∀ (c : Bool) (A B : Nat), cry c A B (j + 1) = (A.testBit j && B.testBit j || A.testBit j && cry c A B j || B.testBit j && cry c A B j) := by
  induction j with
  | zero => intro c A B; rfl
  | succ j ih =>
    intro c A B
    rw [cry, ih, testBit_half, testBit_half, ← cry]
theorem testBit_add_cry (j : Nat) : ∀ (c : Bool) (A B : Nat), (A + B + c.toNat).testBit j = (A.testBit j ^^ B.testBit j ^^ cry c A B j) := by
  have h2 : ∀ A : Nat, A = 2 * (A / 2) + (A.testBit 0).toNat := by
    intro A
    have := Nat.div_add_mod A 2
    rw [Nat.testBit_zero]
    rcases Nat.mod_two_eq_zero_or_one A with h | h <;> simp [h] <;> omega
  induction j with
  | zero =>
    intro c A B
    have ha := h2 A
    have hb := h2 B
    simp only [Nat.testBit_zero, cry]
    rcases Nat.mod_two_eq_zero_or_one A with h | h <;> rcases Nat.mod_two_eq_zero_or_one B with h' | h' <;> cases c <;> simp [h, h', Nat.add_mod]
  | succ j ih =>
    intro c A B
    rw [Nat.testBit_succ, Nat.testBit_succ, Nat.testBit_succ, cry]
    rw [← ih]
    congr 1
    have ha := h2 A
    have hb := h2 B
    generalize A.testBit 0 = x at *
    generalize B.testBit 0 = y at *
    cases x <;> cases y <;> cases c <;> simp at * <;> omega

/-- The row of bits of one number more: h the row of the table before, g the one behind, V its bits, U the places of the number. -/
theorem row_step (m : Nat) (h g : Nat → Nat) (U : Nat → Bool) (V X : Nat) (h0 : h 0 = 0) (g0 : g 0 = 0) (hh : ∀ j, j < m → h j ≤ h (j + 1) ∧ h (j + 1) ≤ h j + 1) (hg : ∀ j, j ≤ m → h j ≤ g j ∧ g j ≤ h j + 1)
    (hs : ∀ j, j < m → g (j + 1) = if U j = true then h j + 1 else max (h (j + 1)) (g j))
    (hV : ∀ j, j < m → V.testBit j = decide (h (j + 1) = h j)) (hX : ∀ j, j < m → X.testBit j = (V.testBit j && U j)) :
    ∀ j, j ≤ m → cry false V X j = decide (g j = h j + 1) ∧ (j < m → ((V + X).testBit j || (V.testBit j && !U j)) = decide (g (j + 1) = g j)) := by
  have key : ∀ j, j ≤ m → cry false V X j = decide (g j = h j + 1) := by
    intro j
    induction j with
    | zero => intro _; rw [cry, h0, g0]; rfl
    | succ j ih =>
      intro hj
      have hj' : j < m := hj
      rw [cry_succ, ih (by omega), hX j hj', hV j hj', hs j hj']
      have a1 := hh j hj'
      have a2 := hg j (by omega)
      have a3 := hg (j + 1) hj
      rw [hs j hj'] at a3
      cases hu : U j
      · rw [if_neg (by simp)]
        rcases (show h (j + 1) = h j ∨ h (j + 1) = h j + 1 by omega) with e | e <;> rcases (show g j = h j ∨ g j = h j + 1 by omega) with f | f <;> simp [e, f] <;> omega
      · rw [if_pos rfl]
        rcases (show h (j + 1) = h j ∨ h (j + 1) = h j + 1 by omega) with e | e <;> rcases (show g j = h j ∨ g j = h j + 1 by omega) with f | f <;> simp [e, f]
  intro j hj
  refine ⟨key j hj, fun hj' => ?_⟩
  have hc := testBit_add_cry j false V X
  simp only [Bool.toNat_false, Nat.add_zero] at hc
  rw [hc, key j hj, hX j hj', hV j hj', hs j hj']
  have a1 := hh j hj'
  have a2 := hg j (by omega)
  cases hu : U j
  · rw [if_neg (by simp)]
    rcases (show h (j + 1) = h j ∨ h (j + 1) = h j + 1 by omega) with e | e <;> rcases (show g j = h j ∨ g j = h j + 1 by omega) with f | f <;> simp [e, f] <;> omega
  · rw [if_pos rfl]
    rcases (show h (j + 1) = h j ∨ h (j + 1) = h j + 1 by omega) with e | e <;> rcases (show g j = h j ∨ g j = h j + 1 by omega) with f | f <;> simp [e, f]
end Go.Proofs.BitsMath
