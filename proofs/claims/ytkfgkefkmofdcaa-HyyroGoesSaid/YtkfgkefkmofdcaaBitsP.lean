/- The rows of bits are the table's. -/
import Derived.Test.YtkfgkefkmofdcaaBitsO
namespace Go.Proofs.Ytkfgkefkmofdcaa.Man
open Go.RowKit Go.Proofs.YtkfgkefkmofdcaaW.PrintWords Go.Proofs.YtkfgkefkmofdcaaW.PrintLast Go.Proofs.YtkfgkefkmofdcaaW.PrintMore
open Go.Proofs.BitsMath

/-- Where x stands. -/
def mb (b : List Int) (x : Int) (i : Nat) : Bool := decide (i < b.length) && (b.getD i 0 == x)
theorem one_word (r : Nat) (hr : r < 64) : ((2 ^ r : Nat) : Int) = word fun i => i == r := by
  refine nat_word _ (Nat.pow_lt_pow_right (by decide) hr) _ (fun i _ => ?_)
  rw [Nat.testBit_two_pow]
  by_cases h : r = i
  · subst h; simp
  · rw [decide_eq_false h]
    have : (i == r) = false := by simpa using fun e => h e.symm
    rw [this]
theorem wrap_pow (r : Nat) (hr : r < 64) : IntKind.u64.wrap (2 ^ r) = word fun i => i == r := by
  have hp := pow_lt r hr
  rw [← one_word r hr, show ((2 : Int) ^ r) = ((2 ^ r : Nat) : Int) by simp]
  generalize 2 ^ r = P at hp
  exact wrap_u64 _ (by omega) (by omega)
theorem mkRow_set (W : Nat) (p : Nat → Bool) (k r : Nat) (hr : r < 64) (_hk : k < W) : (mkRow W p).set k (word fun i => p (64 * k + i) || (i == r)) = mkRow W fun i => p i || (i == 64 * k + r) := by
  apply List.ext_getElem?
  intro j
  by_cases hj : j < W
  · rw [List.getElem?_set, mkRow_length, mkRow_get W p j hj, mkRow_get W (fun i => p i || (i == 64 * k + r)) j hj]
    by_cases e : k = j
    · subst e
      rw [if_pos rfl, if_pos hj]
      exact congrArg some (word_congr fun i hi => by
        have e2 : (i == r) = (64 * k + i == 64 * k + r) := by rw [Bool.eq_iff_iff]; simp
        rw [e2])
    · rw [if_neg e]
      exact congrArg some (word_congr fun i hi => by
        have : (64 * j + i == 64 * k + r) = false := by simp; omega
        rw [this, Bool.or_false])
  · rw [List.getElem?_eq_none (by rw [List.length_set, mkRow_length]; omega), List.getElem?_eq_none (by rw [mkRow_length]; omega)]
theorem mrow_bits (b : List Int) (x : Int) : ∀ j, j ≤ b.length → mrow b x j = mkRow (wds b.length) fun i => decide (i < j) && (b.getD i 0 == x)
  | 0, _ => by
    unfold mrow
    apply List.ext_getElem?
    intro k
    by_cases hk : k < wds b.length
    · rw [mkRow_get _ _ k hk, List.getElem?_replicate, if_pos hk, zero_word]
      exact congrArg some (word_congr fun i _ => by simp)
    · rw [List.getElem?_eq_none (by simp; omega), List.getElem?_eq_none (by rw [mkRow_length]; omega)]
  | j + 1, h => by
    have ih := mrow_bits b x j (by omega)
    have hW : j / 64 < wds b.length := by unfold wds; omega
    unfold mrow
    rw [ih]
    by_cases e : b.getD j 0 = x
    · rw [if_pos e, show ((j : Int) / 64) = ((j / 64 : Nat) : Int) by omega, rd_mkRow _ _ _ hW, wrap_pow _ (Nat.mod_lt _ (by decide)), bor, mkRow_set _ _ _ _ (Nat.mod_lt _ (by decide)) hW]
      refine mkRow_congr fun i _ => ?_
      rw [show 64 * (j / 64) + j % 64 = j by omega]
      by_cases hi : i = j
      · subst hi; rw [e]; simp
      · have h1 : (i == j) = false := by simpa using hi
        have h2 : decide (i < j + 1) = decide (i < j) := by congr 1; apply propext; omega
        rw [h1, h2, Bool.or_false]
    · rw [if_neg e]
      refine mkRow_congr fun i _ => ?_
      by_cases hi : i = j
      · subst hi
        have h1 : (b.getD i 0 == x) = false := by simpa using e
        rw [h1, Bool.and_false, Bool.and_false]
      · have h2 : decide (i < j + 1) = decide (i < j) := by congr 1; apply propext; omega
        rw [h2]
theorem fit_mwords (k : Nat) (b : List Int) (hb : b.length ≤ 1048576) (hk : wds b.length < k) (x : Int) : PV.vec_Fit.f k (mwords b x) b.length = some (mkRow (wds b.length) (mb b x)) := by
  unfold mwords
  by_cases hx : x ∈ b
  · rw [if_pos hx, mrow_bits b x b.length (Nat.le_refl _), fit_any k b.length hb hk]
    exact congrArg some (mkRow_congr fun i _ => by unfold mb; cases decide (i < b.length) <;> simp)
  · rw [if_neg hx, fit_n k [] wfw_nil b.length hb hk]
    refine congrArg some (mkRow_congr fun i _ => ?_)
    rw [bitL_nil, Bool.false_and]
    unfold mb
    by_cases hi : i < b.length
    · have : (b.getD i 0 == x) = false := by
        simp only [beq_eq_false_iff_ne, ne_eq]
        intro e
        apply hx
        rw [← e, List.getD_eq_getElem?_getD, List.getElem?_eq_getElem hi]
        exact List.getElem_mem hi
      rw [this, Bool.and_false]
    · rw [decide_eq_false hi, Bool.false_and]

/-- The table: of the first i numbers and the first j ones. -/
def hb (a b : List Int) (i j : Nat) : Nat := lcs (a.take i).reverse (b.take j).reverse
theorem hb_zero (a b : List Int) (j : Nat) : hb a b 0 j = 0 := by unfold hb; simp [lcs_nil_left]
theorem hb_left (a b : List Int) (i : Nat) : hb a b i 0 = 0 := by unfold hb; simp [lcs_nil_right]
theorem rev_take (a : List Int) (i : Nat) (hi : i < a.length) : (a.take (i + 1)).reverse = a.getD i 0 :: (a.take i).reverse := by
  rw [List.take_succ_eq_append_getElem hi, List.reverse_append, List.getD_eq_getElem?_getD, List.getElem?_eq_getElem hi]; rfl
theorem hb_step (a b : List Int) (i j : Nat) (hi : i < a.length) (hj : j < b.length) : hb a b (i + 1) (j + 1) = if a.getD i 0 = b.getD j 0 then hb a b i j + 1 else max (hb a b i (j + 1)) (hb a b (i + 1) j) := by
  unfold hb
  rw [rev_take a i hi, rev_take b j hj, lcs_cons]
theorem hb_right (a b : List Int) (i j : Nat) (hj : j < b.length) : hb a b i j ≤ hb a b i (j + 1) ∧ hb a b i (j + 1) ≤ hb a b i j + 1 := by
  unfold hb
  rw [rev_take b j hj]
  exact lcs_right _ _ _
theorem hb_down (a b : List Int) (i j : Nat) (hi : i < a.length) : hb a b i j ≤ hb a b (i + 1) j ∧ hb a b (i + 1) j ≤ hb a b i j + 1 := by
  unfold hb
  rw [rev_take a i hi]
  exact lcs_left _ _ _
/-- Bit j of row i: 0 just where the table's row goes up. -/
def rbit (a b : List Int) (i j : Nat) : Bool := decide (j < b.length) && decide (hb a b i (j + 1) = hb a b i j)
theorem rbit_lt (a b : List Int) (i j : Nat) (h : rbit a b i j = true) : j < b.length := by
  unfold rbit at h
  simp only [Bool.and_eq_true, decide_eq_true_eq] at h
  exact h.1
theorem mb_lt (b : List Int) (x : Int) (i : Nat) (h : mb b x i = true) : i < b.length := by
  unfold mb at h
  simp only [Bool.and_eq_true, decide_eq_true_eq] at h
  exact h.1
theorem car_at (a b : List Int) (i : Nat) (hi : i < a.length) : ∀ j, j ≤ b.length → car (rbit a b i) (fun j => rbit a b i j && mb b (a.getD i 0) j) j = decide (hb a b (i + 1) j = hb a b i j + 1)
  | 0, _ => by rw [hb_left, hb_left]; rfl
  | j + 1, hj => by
    have hj' : j < b.length := hj
    have ih := car_at a b i hi j (by omega)
    have a1 := hb_right a b i j hj'
    have a2 := hb_down a b i j hi
    have a3 := hb_down a b i (j + 1) hi
    have hs := hb_step a b i j hi hj'
    unfold car
    rw [ih]
    unfold rbit mb
    rw [decide_eq_true hj', Bool.true_and, Bool.true_and, hs]
    rw [hs] at a3
    generalize hb a b i j = h0 at *
    generalize hb a b i (j + 1) = h1 at *
    generalize hb a b (i + 1) j = g0 at *
    by_cases hu : a.getD i 0 = b.getD j 0
    · have e1 : (b.getD j 0 == a.getD i 0) = true := by rw [hu]; exact beq_self_eq_true _
      rw [e1, if_pos hu]
      rcases (show h1 = h0 ∨ h1 = h0 + 1 by omega) with e | e <;> rcases (show g0 = h0 ∨ g0 = h0 + 1 by omega) with f | f <;> simp [e, f]
    · have e1 : (b.getD j 0 == a.getD i 0) = false := by simpa using fun e => hu e.symm
      rw [e1, if_neg hu]
      rw [if_neg hu] at a3
      rcases (show h1 = h0 ∨ h1 = h0 + 1 by omega) with e | e <;> rcases (show g0 = h0 ∨ g0 = h0 + 1 by omega) with f | f <;> simp [e, f] <;> omega
theorem rowb_at (a b : List Int) (i : Nat) (hi : i < a.length) : rowb b.length (rbit a b i) (mb b (a.getD i 0)) = rbit a b (i + 1) := by
  funext j
  unfold rowb
  by_cases hj : j < b.length
  · rw [car_at a b i hi j (by omega), decide_eq_true hj, Bool.and_true]
    have a1 := hb_right a b i j hj
    have a2 := hb_down a b i j hi
    have a3 := hb_down a b i (j + 1) hi
    have hs := hb_step a b i j hi hj
    unfold rbit mb
    rw [decide_eq_true hj, Bool.true_and, Bool.true_and, Bool.true_and, hs]
    rw [hs] at a3
    generalize hb a b i j = h0 at *
    generalize hb a b i (j + 1) = h1 at *
    generalize hb a b (i + 1) j = g0 at *
    by_cases hu : a.getD i 0 = b.getD j 0
    · have e1 : (b.getD j 0 == a.getD i 0) = true := by rw [hu]; exact beq_self_eq_true _
      rw [e1, if_pos hu]
      rcases (show h1 = h0 ∨ h1 = h0 + 1 by omega) with e | e <;> rcases (show g0 = h0 ∨ g0 = h0 + 1 by omega) with f | f <;> simp [e, f]
    · have e1 : (b.getD j 0 == a.getD i 0) = false := by simpa using fun e => hu e.symm
      rw [e1, if_neg hu]
      rw [if_neg hu] at a3
      rcases (show h1 = h0 ∨ h1 = h0 + 1 by omega) with e | e <;> rcases (show g0 = h0 ∨ g0 = h0 + 1 by omega) with f | f <;> simp [e, f] <;> omega
  · rw [decide_eq_false hj, Bool.and_false]
    unfold rbit
    rw [decide_eq_false hj, Bool.false_and]

/-- All rows. -/
def brows (a b : List Int) (n : Nat) : List (List Int) := (List.range n).map fun i => mkRow (wds b.length) (rbit a b i)
theorem brows_length (a b : List Int) (n : Nat) : (brows a b n).length = n := by simp [brows]
theorem brows_get (a b : List Int) (n i : Nat) (hi : i < n) : (brows a b n).getD i [] = mkRow (wds b.length) (rbit a b i) := by
  rw [List.getD_eq_getElem?_getD, brows, List.getElem?_map, List.getElem?_range hi]; rfl
theorem brows_succ (a b : List Int) (n : Nat) : brows a b (n + 1) = brows a b n ++ [mkRow (wds b.length) (rbit a b n)] := by
  simp [brows, List.range_succ]
theorem rows_n (row : List Int → List Int → Int → Option (List Int)) (k : Nat) (a b : List Int) (hb : b.length ≤ 1048576) (hk : wds b.length < k)
    (hrow : ∀ p q, (∀ i, p i = true → i < b.length) → (∀ i, q i = true → i < b.length) → row (mkRow (wds b.length) p) (mkRow (wds b.length) q) b.length = some (mkRow (wds b.length) (rowb b.length p q))) (d : Nat) :
    ∀ i, a.length - i = d → i ≤ a.length → rowsGo row k b (a.drop i) (brows a b (i + 1)) = some (brows a b (a.length + 1)) := by
  induction d with
  | zero =>
    intro i hd hi
    obtain rfl : i = a.length := by omega
    rw [List.drop_length]; rfl
  | succ d ih =>
    intro i hd hi
    have hlt : i < a.length := by omega
    have e : a.drop i = a.getD i 0 :: a.drop (i + 1) := by
      rw [List.drop_eq_getElem_cons hlt, List.getD_eq_getElem?_getD, List.getElem?_eq_getElem hlt]; rfl
    rw [e]
    unfold rowsGo
    rw [fit_mwords k b hb hk, Option.bind_some, brows_length, show i + 1 - 1 = i by omega, brows_get _ _ _ i (by omega), hrow _ _ (rbit_lt a b i) (mb_lt b _), Option.bind_some, rowb_at a b i hlt, ← brows_succ]
    exact ih (i + 1) (by omega) (by omega)
theorem lens_n (row : List Int → List Int → Int → Option (List Int)) (k : Nat) (a b : List Int) (hb : b.length ≤ 1048576) (hk : wds b.length < k)
    (hrow : ∀ p q, (∀ i, p i = true → i < b.length) → (∀ i, q i = true → i < b.length) → row (mkRow (wds b.length) p) (mkRow (wds b.length) q) b.length = some (mkRow (wds b.length) (rowb b.length p q))) (d : Nat) :
    ∀ i, a.length - i = d → i ≤ a.length → lenGo row k b (a.drop i) (mkRow (wds b.length) (rbit a b i)) = some (mkRow (wds b.length) (rbit a b a.length)) := by
  induction d with
  | zero =>
    intro i hd hi
    obtain rfl : i = a.length := by omega
    rw [List.drop_length]; rfl
  | succ d ih =>
    intro i hd hi
    have hlt : i < a.length := by omega
    have e : a.drop i = a.getD i 0 :: a.drop (i + 1) := by
      rw [List.drop_eq_getElem_cons hlt, List.getD_eq_getElem?_getD, List.getElem?_eq_getElem hlt]; rfl
    rw [e]
    unfold lenGo
    rw [fit_mwords k b hb hk, Option.bind_some, hrow _ _ (rbit_lt a b i) (mb_lt b _), Option.bind_some, rowb_at a b i hlt]
    exact ih (i + 1) (by omega) (by omega)
theorem ones_row (k : Nat) (a b : List Int) (hb : b.length ≤ 1048576) (hk : wds b.length < k) : PV.vec_Ones.f k b.length = some (mkRow (wds b.length) (rbit a b 0)) := by
  rw [ones_n k b.length hb hk]
  refine congrArg some (mkRow_congr fun i _ => ?_)
  unfold rbit
  rw [hb_zero, hb_zero]; simp
theorem hyyroRows_n (k : Nat) (a b : List Int) (hg : rgood a b = true) (hk : wds b.length < k) : hyyro_Rows.f k a b = some (brows a b (a.length + 1)) := by
  have hb := (rgood_at hg).1
  unfold hyyro_Rows.f
  rw [if_pos hg, ones_row k a b hb hk, Option.bind_some]
  exact rows_n (PV.hyyro_Row.f k) k a b hb hk (fun p q hp hq => hyyro_n k b.length hb hk p q hp hq) a.length 0 (by omega) (by omega)
theorem crochRows_n (k : Nat) (a b : List Int) (hg : rgood a b = true) (hk : wds b.length < k) : croch_Rows.f k a b = some (brows a b (a.length + 1)) := by
  have hb := (rgood_at hg).1
  unfold croch_Rows.f
  rw [if_pos hg, ones_row k a b hb hk, Option.bind_some]
  exact rows_n (PV.croch_Row.f k) k a b hb hk (fun p q hp hq => croch_n k b.length hb hk p q hp hq) a.length 0 (by omega) (by omega)
theorem rd_n (x : List Int) (k : Nat) : YtkfgkefkmofdcaaW.PrintWords.rd x (k : Int) = x.getD k 0 := by
  unfold YtkfgkefkmofdcaaW.PrintWords.rd
  rw [Int.toNat_natCast]
end Go.Proofs.Ytkfgkefkmofdcaa.Man
