/- And, Or, Not, Add, Sub, Ones and the two Rows, in bits. -/
import Derived.Test.YtkfgkefkmofdcaaBitsN
namespace Go.Proofs.Ytkfgkefkmofdcaa.Man
open Go.RowKit Go.Proofs.YtkfgkefkmofdcaaW.PrintWords Go.Proofs.YtkfgkefkmofdcaaW.PrintLast Go.Proofs.YtkfgkefkmofdcaaW.PrintMore
open Go.Proofs.BitsMath

theorem mx_self (W : Nat) : mx (W : Int) (W : Int) = W := by unfold mx; split <;> rfl
theorem at_row (W : Nat) (p : Nat → Bool) (k : Nat) (hk : k < W) : PV.vec_at.f (mkRow W p) (k : Int) = some (word fun i => p (64 * k + i)) := by
  rw [at_n, List.getD_eq_getElem?_getD, mkRow_get W p k hk]; rfl
theorem and_loop (W : Nat) (hW : W ≤ 16384) (p q : Nat → Bool) (d : Nat) : ∀ (k j : Nat) (y : List Int), W - j = d → d < k → j ≤ W → y.length = W → (∀ i, i < j → y[i]? = (mkRow W fun i => p i && q i)[i]?) →
    PV.vec_And.l0 k (mkRow W p) (mkRow W q) y W j = some (mkRow W fun i => p i && q i) := by
  induction d with
  | zero =>
    intro k j y hd hk hj hl h
    obtain ⟨k, rfl⟩ : ∃ m, k = m + 1 := ⟨k - 1, by omega⟩
    simp only [PV.vec_And.l0]
    rw [if_neg (by omega)]
    congr 1
    exact set_end (by rw [hl, mkRow_length]) (fun i hi => h i (by rw [mkRow_length] at hi; omega))
  | succ d ih =>
    intro k j y hd hk hj hl h
    obtain ⟨k, rfl⟩ : ∃ m, k = m + 1 := ⟨k - 1, by omega⟩
    simp only [PV.vec_And.l0]
    rw [if_pos (by omega), at_row W p j (by omega), at_row W q j (by omega)]
    simp only [Option.bind_some]
    rw [if_pos (by omega), if_pos (by omega), band, w_succ j (by omega), Int.toNat_natCast]
    have hjl : j < (mkRow W fun i => p i && q i).length := by rw [mkRow_length]; omega
    have := set_step (T := mkRow W fun i => p i && q i) (y := y) (by rw [hl, mkRow_length]) hjl h
    rw [mkRow_getElem hjl] at this
    exact ih k (j + 1) _ (by omega) (by omega) (by omega) (by rw [List.length_set]; exact hl) this
theorem and_n (k W : Nat) (hW : W ≤ 16384) (hk : W < k) (p q : Nat → Bool) : PV.vec_And.f k (mkRow W p) (mkRow W q) = some (mkRow W fun i => p i && q i) := by
  unfold PV.vec_And.f
  rw [mkRow_length, mkRow_length, mx_self, if_pos (by omega), if_pos (by omega)]
  simp only [Option.bind_some]
  rw [Int.toNat_natCast, List.length_replicate]
  exact and_loop W hW p q W k 0 _ (by omega) hk (Nat.zero_le _) (by simp) (fun i hi => by omega)
theorem or_loop (W : Nat) (hW : W ≤ 16384) (p q : Nat → Bool) (d : Nat) : ∀ (k j : Nat) (y : List Int), W - j = d → d < k → j ≤ W → y.length = W → (∀ i, i < j → y[i]? = (mkRow W fun i => p i || q i)[i]?) →
    PV.vec_Or.l0 k (mkRow W p) (mkRow W q) y W j = some (mkRow W fun i => p i || q i) := by
  induction d with
  | zero =>
    intro k j y hd hk hj hl h
    obtain ⟨k, rfl⟩ : ∃ m, k = m + 1 := ⟨k - 1, by omega⟩
    simp only [PV.vec_Or.l0]
    rw [if_neg (by omega)]
    congr 1
    exact set_end (by rw [hl, mkRow_length]) (fun i hi => h i (by rw [mkRow_length] at hi; omega))
  | succ d ih =>
    intro k j y hd hk hj hl h
    obtain ⟨k, rfl⟩ : ∃ m, k = m + 1 := ⟨k - 1, by omega⟩
    simp only [PV.vec_Or.l0]
    rw [if_pos (by omega), at_row W p j (by omega), at_row W q j (by omega)]
    simp only [Option.bind_some]
    rw [if_pos (by omega), if_pos (by omega), bor, w_succ j (by omega), Int.toNat_natCast]
    have hjl : j < (mkRow W fun i => p i || q i).length := by rw [mkRow_length]; omega
    have := set_step (T := mkRow W fun i => p i || q i) (y := y) (by rw [hl, mkRow_length]) hjl h
    rw [mkRow_getElem hjl] at this
    exact ih k (j + 1) _ (by omega) (by omega) (by omega) (by rw [List.length_set]; exact hl) this
theorem or_n (k W : Nat) (hW : W ≤ 16384) (hk : W < k) (p q : Nat → Bool) : PV.vec_Or.f k (mkRow W p) (mkRow W q) = some (mkRow W fun i => p i || q i) := by
  unfold PV.vec_Or.f
  rw [mkRow_length, mkRow_length, mx_self, if_pos (by omega), if_pos (by omega)]
  simp only [Option.bind_some]
  rw [Int.toNat_natCast, List.length_replicate]
  exact or_loop W hW p q W k 0 _ (by omega) hk (Nat.zero_le _) (by simp) (fun i hi => by omega)
theorem not_loop (x : List Int) (hx : wfw x) (n : Nat) (hn : n ≤ 1048576) (d : Nat) : ∀ (k j : Nat) (y : List Int), wds n - j = d → d < k → j ≤ wds n → y.length = wds n → (∀ i, i < j → y[i]? = (mkRow (wds n) fun i => !bitL x i && decide (i < n))[i]?) →
    PV.vec_Not.l0 k x n y (wds n) j = some (mkRow (wds n) fun i => !bitL x i && decide (i < n)) := by
  have hW : wds n ≤ 16384 := by unfold wds; omega
  induction d with
  | zero =>
    intro k j y hd hk hj hl h
    obtain ⟨k, rfl⟩ : ∃ m, k = m + 1 := ⟨k - 1, by omega⟩
    simp only [PV.vec_Not.l0]
    rw [if_neg (by omega)]
    congr 1
    exact set_end (by rw [hl, mkRow_length]) (fun i hi => h i (by rw [mkRow_length] at hi; omega))
  | succ d ih =>
    intro k j y hd hk hj hl h
    obtain ⟨k, rfl⟩ : ∃ m, k = m + 1 := ⟨k - 1, by omega⟩
    simp only [PV.vec_Not.l0]
    rw [if_pos (by omega), at_n, mask_n n j hn (by omega)]
    simp only [Option.bind_some]
    rw [if_pos (by omega), if_pos (by omega), getD_word hx j, bnot, band, w_succ j (by omega), Int.toNat_natCast]
    have hjl : j < (mkRow (wds n) fun i => !bitL x i && decide (i < n)).length := by rw [mkRow_length]; omega
    have := set_step (T := mkRow (wds n) fun i => !bitL x i && decide (i < n)) (y := y) (by rw [hl, mkRow_length]) hjl h
    rw [mkRow_getElem hjl] at this
    exact ih k (j + 1) _ (by omega) (by omega) (by omega) (by rw [List.length_set]; exact hl) this
theorem not_n (k : Nat) (x : List Int) (hx : wfw x) (n : Nat) (hn : n ≤ 1048576) (hk : wds n < k) : PV.vec_Not.f k x n = some (mkRow (wds n) fun i => !bitL x i && decide (i < n)) := by
  unfold PV.vec_Not.f
  rw [words_n n hn]
  simp only [Option.bind_some]
  have hW : wds n ≤ 16384 := by unfold wds; omega
  rw [if_pos (by omega), if_pos (by omega), Int.toNat_natCast, List.length_replicate]
  exact not_loop x hx n hn (wds n) k 0 _ (by omega) hk (Nat.zero_le _) (by simp) (fun i hi => by omega)
theorem ones_n (k n : Nat) (hn : n ≤ 1048576) (hk : wds n < k) : PV.vec_Ones.f k n = some (mkRow (wds n) fun i => decide (i < n)) := by
  unfold PV.vec_Ones.f
  rw [not_n k [] wfw_nil n hn hk, Option.bind_some]
  exact congrArg some (mkRow_congr fun i _ => by rw [bitL_nil]; rfl)

/-- The carry, bit by bit. -/
def car (p q : Nat → Bool) : Nat → Bool
  | 0 => false
  | i + 1 => p i && q i || p i && car p q i || q i && car p q i
theorem cry_car (p q : Nat → Bool) (j : Nat) : ∀ i, i ≤ 64 → cry (car p q (64 * j)) (wordB (fun i => p (64 * j + i)) 64) (wordB (fun i => q (64 * j + i)) 64) i = car p q (64 * j + i)
  | 0, _ => rfl
  | i + 1, h => by
    rw [cry_succ, cry_car p q j i (by omega), testBit_wordB, testBit_wordB, decide_eq_true (show i < 64 by omega), Bool.true_and, Bool.true_and]
    rfl
theorem add_word (p q : Nat → Bool) (j : Nat) : bits_Add64.f (word fun i => p (64 * j + i)) (word fun i => q (64 * j + i)) ((car p q (64 * j)).toNat : Int) =
    some (word (fun i => p (64 * j + i) ^^ q (64 * j + i) ^^ car p q (64 * j + i)), ((car p q (64 * (j + 1))).toNat : Int)) := by
  have hA := wordB_lt (fun i => p (64 * j + i)) 64
  have hB := wordB_lt (fun i => q (64 * j + i)) 64
  have hc : (car p q (64 * j)).toNat ≤ 1 := by cases car p q (64 * j) <;> decide
  have hbit := fun i => testBit_add_cry i (car p q (64 * j)) (wordB (fun i => p (64 * j + i)) 64) (wordB (fun i => q (64 * j + i)) 64)
  have h1 : (((wordB (fun i => p (64 * j + i)) 64 + wordB (fun i => q (64 * j + i)) 64 + (car p q (64 * j)).toNat) % 2 ^ 64 : Nat) : Int) = word (fun i => p (64 * j + i) ^^ q (64 * j + i) ^^ car p q (64 * j + i)) := by
    refine nat_word _ (Nat.mod_lt _ (Nat.two_pow_pos 64)) _ (fun i hi => ?_)
    rw [Nat.testBit_mod_two_pow, decide_eq_true hi, Bool.true_and, hbit i, testBit_wordB, testBit_wordB, decide_eq_true hi, Bool.true_and, Bool.true_and, cry_car p q j i (by omega)]
  have h2 : (wordB (fun i => p (64 * j + i)) 64 + wordB (fun i => q (64 * j + i)) 64 + (car p q (64 * j)).toNat) / 2 ^ 64 = (car p q (64 * (j + 1))).toNat := by
    have h3 := hbit 64
    rw [cry_car p q j 64 (by omega), testBit_wordB, testBit_wordB, decide_eq_false (by omega), Bool.false_and, Bool.false_and, Nat.testBit_eq_decide_div_mod_eq] at h3
    rw [show 64 * (j + 1) = 64 * j + 64 by omega]
    generalize car p q (64 * j + 64) = c2 at h3 ⊢
    generalize (car p q (64 * j)).toNat = c at *
    generalize wordB (fun i => p (64 * j + i)) 64 = A at *
    generalize wordB (fun i => q (64 * j + i)) 64 = B at *
    have hlt : (A + B + c) / 2 ^ 64 < 2 := by
      have : A + B + c < 2 * 2 ^ 64 := by omega
      exact Nat.div_lt_of_lt_mul (by omega)
    cases c2
    · simp only [Bool.false_xor, decide_eq_false_iff_not] at h3
      simp only [Bool.toNat_false]
      omega
    · simp only [Bool.false_xor, decide_eq_true_eq] at h3
      simp only [Bool.toNat_true]
      omega
  unfold bits_Add64.f
  rw [if_pos ⟨(word_lt _).1, (word_lt _).1, by omega, by omega⟩]
  congr 1
  rw [← h1, ← h2]
  unfold word
  generalize wordB (fun i => p (64 * j + i)) 64 = A at *
  generalize wordB (fun i => q (64 * j + i)) 64 = B at *
  generalize (car p q (64 * j)).toNat = c at *
  clear h1 h2 hbit
  have e : (2 : Nat) ^ 64 = 18446744073709551616 := by decide
  rw [e]
  congr 1 <;> omega
theorem add_loop (W : Nat) (hW : W ≤ 16384) (p q : Nat → Bool) (d : Nat) : ∀ (k j : Nat) (y : List Int), W - j = d → d < k → j ≤ W → y.length = W → (∀ i, i < j → y[i]? = (mkRow W fun i => p i ^^ q i ^^ car p q i)[i]?) →
    PV.vec_Add.l0 k (mkRow W p) (mkRow W q) y ((car p q (64 * j)).toNat : Int) W j = some (mkRow W fun i => p i ^^ q i ^^ car p q i) := by
  induction d with
  | zero =>
    intro k j y hd hk hj hl h
    obtain ⟨k, rfl⟩ : ∃ m, k = m + 1 := ⟨k - 1, by omega⟩
    simp only [PV.vec_Add.l0]
    rw [if_neg (by omega)]
    congr 1
    exact set_end (by rw [hl, mkRow_length]) (fun i hi => h i (by rw [mkRow_length] at hi; omega))
  | succ d ih =>
    intro k j y hd hk hj hl h
    obtain ⟨k, rfl⟩ : ∃ m, k = m + 1 := ⟨k - 1, by omega⟩
    simp only [PV.vec_Add.l0]
    rw [if_pos (by omega), at_row W p j (by omega), at_row W q j (by omega)]
    simp only [Option.bind_some]
    rw [add_word p q j]
    simp only [Option.bind_some]
    rw [if_pos (by omega), if_pos (by omega), w_succ j (by omega), Int.toNat_natCast]
    have hjl : j < (mkRow W fun i => p i ^^ q i ^^ car p q i).length := by rw [mkRow_length]; omega
    have := set_step (T := mkRow W fun i => p i ^^ q i ^^ car p q i) (y := y) (by rw [hl, mkRow_length]) hjl h
    rw [mkRow_getElem hjl] at this
    exact ih k (j + 1) _ (by omega) (by omega) (by omega) (by rw [List.length_set]; exact hl) this
theorem add_n (k W : Nat) (hW : W ≤ 16384) (hk : W < k) (p q : Nat → Bool) : PV.vec_Add.f k (mkRow W p) (mkRow W q) = some (mkRow W fun i => p i ^^ q i ^^ car p q i) := by
  unfold PV.vec_Add.f
  rw [mkRow_length, mkRow_length, mx_self, if_pos (by omega), if_pos (by omega)]
  simp only [Option.bind_some]
  rw [Int.toNat_natCast, List.length_replicate]
  exact add_loop W hW p q W k 0 _ (by omega) hk (Nat.zero_le _) (by simp) (fun i hi => by omega)
theorem wordB_sub (p q : Nat → Bool) (h : ∀ i, q i = true → p i = true) : ∀ n, wordB p n = wordB q n + wordB (fun i => p i && !q i) n
  | 0 => rfl
  | n + 1 => by
    have ih := wordB_sub p q h n
    have hn := h n
    unfold wordB
    cases hp : p n <;> cases hq : q n <;> simp_all <;> omega
theorem sub_nums (A B C : Nat) (e : A = B + C) (l1 : A < 18446744073709551616) (l2 : B < 18446744073709551616) (_l3 : C < 18446744073709551616) : (if 0 ≤ (A : Int) ∧ 0 ≤ (B : Int) ∧ (B : Int) < 18446744073709551616 ∧ (0 : Int) ≤ 0 ∧ (0 : Int) ≤ 1 then some (((A : Int) - (B : Int) - 0) % 18446744073709551616, if (A : Int) < (B : Int) + 0 then (1 : Int) else 0) else none) = some ((C : Int), 0) := by
  have h1 : ((A : Int) - (B : Int) - 0) % 18446744073709551616 = (C : Int) := by omega
  rw [if_pos ⟨by omega, by omega, by omega, by omega, by omega⟩, if_neg (by omega), h1]
theorem sub_word (p q : Nat → Bool) (h : ∀ i, q i = true → p i = true) : bits_Sub64.f (word p) (word q) 0 = some (word fun i => p i && !q i, 0) := by
  have e := wordB_sub p q h 64
  have l1 := wordB_lt p 64
  have l2 := wordB_lt q 64
  have l3 := wordB_lt (fun i => p i && !q i) 64
  have e64 : (2 : Nat) ^ 64 = 18446744073709551616 := by decide
  rw [e64] at l1 l2 l3
  unfold bits_Sub64.f word
  generalize wordB p 64 = A at *
  generalize wordB q 64 = B at *
  generalize wordB (fun i => p i && !q i) 64 = C at *
  exact sub_nums A B C e l1 l2 l3
theorem sub_loop (W : Nat) (hW : W ≤ 16384) (p q : Nat → Bool) (hpq : ∀ i, q i = true → p i = true) (d : Nat) : ∀ (k j : Nat) (y : List Int), W - j = d → d < k → j ≤ W → y.length = W → (∀ i, i < j → y[i]? = (mkRow W fun i => p i && !q i)[i]?) →
    PV.vec_Sub.l0 k (mkRow W p) (mkRow W q) y 0 W j = some (mkRow W fun i => p i && !q i) := by
  induction d with
  | zero =>
    intro k j y hd hk hj hl h
    obtain ⟨k, rfl⟩ : ∃ m, k = m + 1 := ⟨k - 1, by omega⟩
    simp only [PV.vec_Sub.l0]
    rw [if_neg (by omega)]
    congr 1
    exact set_end (by rw [hl, mkRow_length]) (fun i hi => h i (by rw [mkRow_length] at hi; omega))
  | succ d ih =>
    intro k j y hd hk hj hl h
    obtain ⟨k, rfl⟩ : ∃ m, k = m + 1 := ⟨k - 1, by omega⟩
    simp only [PV.vec_Sub.l0]
    rw [if_pos (by omega), at_row W p j (by omega), Option.bind_some, at_row W q j (by omega), Option.bind_some, sub_word (fun i => p (64 * j + i)) (fun i => q (64 * j + i)) (fun i => hpq _), Option.bind_some]
    rw [if_pos (by omega), if_pos (by omega), w_succ j (by omega), Int.toNat_natCast]
    have hjl : j < (mkRow W fun i => p i && !q i).length := by rw [mkRow_length]; omega
    have := set_step (T := mkRow W fun i => p i && !q i) (y := y) (by rw [hl, mkRow_length]) hjl h
    rw [mkRow_getElem hjl] at this
    exact ih k (j + 1) _ (by omega) (by omega) (by omega) (by rw [List.length_set]; exact hl) this
theorem sub_n (k W : Nat) (hW : W ≤ 16384) (hk : W < k) (p q : Nat → Bool) (hpq : ∀ i, q i = true → p i = true) : PV.vec_Sub.f k (mkRow W p) (mkRow W q) = some (mkRow W fun i => p i && !q i) := by
  unfold PV.vec_Sub.f
  rw [mkRow_length, mkRow_length, mx_self, if_pos (by omega), if_pos (by omega)]
  simp only [Option.bind_some]
  rw [Int.toNat_natCast, List.length_replicate]
  exact sub_loop W hW p q hpq W k 0 _ (by omega) hk (Nat.zero_le _) (by simp) (fun i hi => by omega)

/-- The row behind a row p and places q, m bits wide. -/
def rowb (m : Nat) (p q : Nat → Bool) (i : Nat) : Bool := ((p i ^^ (p i && q i) ^^ car p (fun i => p i && q i) i) || (p i && !q i)) && decide (i < m)
theorem wds_le (m : Nat) : m ≤ 64 * wds m := by unfold wds; omega
theorem fit_row (k m : Nat) (hm : m ≤ 1048576) (hk : wds m < k) (p : Nat → Bool) (hp : ∀ i, p i = true → i < m) : PV.vec_Fit.f k (mkRow (wds m) p) m = some (mkRow (wds m) p) := by
  rw [fit_n k _ (wfw_row _ _) m hm hk]
  congr 1
  refine mkRow_congr fun i hi => ?_
  rw [bitL_row, decide_eq_true hi, Bool.true_and]
  cases h : p i
  · rfl
  · rw [decide_eq_true (hp i h)]; rfl
theorem fit_any (k m : Nat) (hm : m ≤ 1048576) (hk : wds m < k) (p : Nat → Bool) : PV.vec_Fit.f k (mkRow (wds m) p) m = some (mkRow (wds m) fun i => p i && decide (i < m)) := by
  rw [fit_n k _ (wfw_row _ _) m hm hk]
  congr 1
  refine mkRow_congr fun i hi => ?_
  rw [bitL_row, decide_eq_true hi, Bool.true_and]
theorem hyyro_n (k m : Nat) (hm : m ≤ 1048576) (hk : wds m < k) (p q : Nat → Bool) (hp : ∀ i, p i = true → i < m) (hq : ∀ i, q i = true → i < m) :
    PV.hyyro_Row.f k (mkRow (wds m) p) (mkRow (wds m) q) m = some (mkRow (wds m) (rowb m p q)) := by
  have hW : wds m ≤ 16384 := by unfold wds; omega
  unfold PV.hyyro_Row.f
  simp only [fit_row k m hm hk p hp, fit_row k m hm hk q hq, Option.bind_some, and_n k (wds m) hW hk, add_n k (wds m) hW hk, sub_n k (wds m) hW hk p (fun i => p i && q i) (fun i h => (Bool.and_eq_true _ _ ▸ h).1), or_n k (wds m) hW hk, fit_any k m hm hk]
  congr 1
  refine mkRow_congr fun i _ => ?_
  unfold rowb
  cases p i <;> cases q i <;> simp
theorem croch_n (k m : Nat) (hm : m ≤ 1048576) (hk : wds m < k) (p q : Nat → Bool) (hp : ∀ i, p i = true → i < m) (hq : ∀ i, q i = true → i < m) :
    PV.croch_Row.f k (mkRow (wds m) p) (mkRow (wds m) q) m = some (mkRow (wds m) (rowb m p q)) := by
  have hW : wds m ≤ 16384 := by unfold wds; omega
  unfold PV.croch_Row.f
  simp only [fit_row k m hm hk p hp, fit_row k m hm hk q hq, Option.bind_some, and_n k (wds m) hW hk, add_n k (wds m) hW hk, not_n k _ (wfw_row _ _) m hm hk, or_n k (wds m) hW hk, fit_any k m hm hk]
  congr 1
  refine mkRow_congr fun i hi => ?_
  rw [bitL_row, decide_eq_true hi, Bool.true_and]
  unfold rowb
  have h1 := hp i
  cases hpi : p i <;> cases hqi : q i <;> simp [hpi] at h1 ⊢
  simp [h1]
end Go.Proofs.Ytkfgkefkmofdcaa.Man
