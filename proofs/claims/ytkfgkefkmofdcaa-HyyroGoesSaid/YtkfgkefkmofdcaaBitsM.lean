/- Rows of words as bits: what each function of vec does to them. -/
import Derived.Test.YtkfgkefkmofdcaaBitsA
import Derived.Test.YtkfgkefkmofdcaaPVx2
import Derived.Laws.BitsLemmas
namespace Go.Proofs.Ytkfgkefkmofdcaa.Man
open Go.Proofs.YtkfgkefkmofdcaaW.PrintWords Go.Proofs.YtkfgkefkmofdcaaW.PrintLast Go.Proofs.YtkfgkefkmofdcaaW.PrintMore
open Go.Proofs.BitsMath

/-- The number whose first n bits are told. -/
def wordB (q : Nat → Bool) : Nat → Nat
  | 0 => 0
  | n + 1 => wordB q n + (if q n = true then 2 ^ n else 0)
theorem wordB_lt (q : Nat → Bool) : ∀ n, wordB q n < 2 ^ n
  | 0 => by simp [wordB]
  | n + 1 => by
    have := wordB_lt q n
    unfold wordB
    rw [Nat.pow_succ]
    split <;> omega
theorem testBit_wordB (q : Nat → Bool) : ∀ n i, (wordB q n).testBit i = (decide (i < n) && q i)
  | 0, i => by simp [wordB]
  | n + 1, i => by
    have h := testBit_wordB q n i
    have hl := wordB_lt q n
    unfold wordB
    have e : wordB q n + (if q n = true then 2 ^ n else 0) = 2 ^ n * (if q n = true then 1 else 0) + wordB q n := by split <;> omega
    rw [e, Nat.testBit_two_pow_mul_add _ hl]
    by_cases hi : i < n
    · rw [if_pos hi, h]
      simp [hi, Nat.lt_succ_of_lt hi]
    · rw [if_neg hi]
      by_cases he : i = n
      · subst he
        cases hq : q i <;> simp
      · have : ¬ i < n + 1 := by omega
        rw [decide_eq_false this, Bool.false_and]
        have hp : 0 < i - n := by omega
        obtain ⟨m, hm⟩ : ∃ m, i - n = m + 1 := ⟨i - n - 1, by omega⟩
        rw [hm]
        cases hq : q n <;> simp [Nat.testBit_succ]
/-- A word with these bits. -/
def word (q : Nat → Bool) : Int := (wordB q 64 : Nat)
theorem word_lt (q : Nat → Bool) : 0 ≤ word q ∧ word q < 18446744073709551616 := by
  have := wordB_lt q 64
  unfold word
  omega
theorem word_nat (q : Nat → Bool) : (word q).toNat = wordB q 64 := rfl
theorem wordB_congr (q q' : Nat → Bool) : ∀ n, (∀ i, i < n → q i = q' i) → wordB q n = wordB q' n
  | 0, _ => rfl
  | n + 1, h => by unfold wordB; rw [wordB_congr q q' n (fun i hi => h i (by omega)), h n (by omega)]
theorem word_congr {q q' : Nat → Bool} (h : ∀ i, i < 64 → q i = q' i) : word q = word q' := by unfold word; rw [wordB_congr q q' 64 h]
theorem nat_word (x : Nat) (hx : x < 2 ^ 64) (q : Nat → Bool) (h : ∀ i, i < 64 → x.testBit i = q i) : (x : Int) = word q := by
  unfold word
  congr 1
  apply Nat.eq_of_testBit_eq
  intro i
  rw [testBit_wordB]
  by_cases hi : i < 64
  · rw [h i hi]; simp [hi]
  · rw [Nat.testBit_lt_two_pow (Nat.lt_of_lt_of_le hx (Nat.pow_le_pow_right (by decide) (by omega)))]
    simp [hi]
theorem testBit_word (q : Nat → Bool) (i : Nat) : (word q).toNat.testBit i = (decide (i < 64) && q i) := testBit_wordB q 64 i
theorem wraps_u64 (n : Int) (h0 : 0 ≤ n) (h1 : n < 2 ^ 64) : IntKind.u64.wrap n = n := by
  simp [IntKind.wrap, IntKind.bits, IntKind.signed]; omega
theorem wordB_lt' (q : Nat → Bool) : wordB q 64 < 2 ^ 64 := wordB_lt q 64
theorem band (p q : Nat → Bool) : Go.bits .and .u64 (word p) (word q) = word fun i => p i && q i := by
  unfold word
  rw [(bits_nat .u64 64 (by decide) wraps_u64 _ _ (wordB_lt p 64) (wordB_lt q 64)).1]
  refine nat_word _ (Nat.and_lt_two_pow _ (wordB_lt q 64)) _ (fun i hi => ?_)
  rw [Nat.testBit_and, testBit_wordB, testBit_wordB]
  simp [hi]
theorem bor (p q : Nat → Bool) : Go.bits .or .u64 (word p) (word q) = word fun i => p i || q i := by
  unfold word
  rw [(bits_nat .u64 64 (by decide) wraps_u64 _ _ (wordB_lt p 64) (wordB_lt q 64)).2]
  refine nat_word _ (Nat.or_lt_two_pow (wordB_lt p 64) (wordB_lt q 64)) _ (fun i hi => ?_)
  rw [Nat.testBit_or, testBit_wordB, testBit_wordB]
  simp [hi]
theorem ones_word : (18446744073709551615 : Int) = word fun _ => true := by decide +kernel
theorem zero_word : (0 : Int) = word fun _ => false := by decide +kernel
theorem bnot (q : Nat → Bool) : Go.bits .xor .u64 18446744073709551615 (word q) = word fun i => !q i := by
  have hl := wordB_lt q 64
  have h : Go.bits .xor .u64 18446744073709551615 (word q) = ((18446744073709551615 ^^^ wordB q 64 : Nat) : Int) := by
    unfold word
    have e : (18446744073709551615 : Int) = ((18446744073709551615 : Nat) : Int) := rfl
    have hb : IntKind.u64.bits = 64 := rfl
    simp only [Go.bits, e, BitVec.ofInt_natCast, BitVec.toNat_xor, BitVec.toNat_ofNat, hb]
    rw [Nat.mod_eq_of_lt (show 18446744073709551615 < 2 ^ 64 by decide), Nat.mod_eq_of_lt hl]
    exact wraps_u64 _ (Int.natCast_nonneg _) (by exact_mod_cast Nat.xor_lt_two_pow (show 18446744073709551615 < 2 ^ 64 by decide) hl)
  rw [h]
  refine nat_word _ (Nat.xor_lt_two_pow (show 18446744073709551615 < 2 ^ 64 by decide) hl) _ (fun i hi => ?_)
  rw [Nat.testBit_xor, testBit_wordB, show (18446744073709551615 : Nat) = 2 ^ 64 - 1 by decide, Nat.testBit_two_pow_sub_one]
  simp [hi]

/-- So many words, with these bits. -/
def mkRow (W : Nat) (p : Nat → Bool) : List Int := (List.range W).map fun k => word fun i => p (64 * k + i)
theorem mkRow_length (W : Nat) (p : Nat → Bool) : (mkRow W p).length = W := by simp [mkRow]
theorem mkRow_get (W : Nat) (p : Nat → Bool) (k : Nat) (hk : k < W) : (mkRow W p)[k]? = some (word fun i => p (64 * k + i)) := by
  simp [mkRow, List.getElem?_map, List.getElem?_range hk]
theorem rd_mkRow (W : Nat) (p : Nat → Bool) (k : Nat) (hk : k < W) : YtkfgkefkmofdcaaW.PrintWords.rd (mkRow W p) (k : Int) = word fun i => p (64 * k + i) := by
  unfold YtkfgkefkmofdcaaW.PrintWords.rd
  rw [Int.toNat_natCast, List.getD_eq_getElem?_getD, mkRow_get W p k hk]; rfl
theorem mkRow_congr {W : Nat} {p p' : Nat → Bool} (h : ∀ i, i < 64 * W → p i = p' i) : mkRow W p = mkRow W p' := by
  unfold mkRow
  refine List.map_congr_left fun k hk => word_congr fun i hi => h _ ?_
  have := List.mem_range.1 hk
  omega
end Go.Proofs.Ytkfgkefkmofdcaa.Man
