/- What tattingref1.Below and tattingref1.Same tell of tokens. -/
import Derived.Test.YtnaicfffplnebaaNamesH
import Derived.Test.YtnaicfffplnebaaPIdsx1
namespace Go.Proofs.Ytnaicfffplnebaa.Man
open Go.RowKit Go.Sort Go.Lib Go.Proofs.YtnaicfffplnebaaW.PrintWords Go.Proofs.YtnaicfffplnebaaW.PrintLast Go.Proofs.YtnaicfffplnebaaW.PrintMore

theorem cmpB_cons (a b : UInt8) (l m : List UInt8) : cmpB (a :: l) (b :: m) < 0 ↔ a < b ∨ a = b ∧ cmpB l m < 0 := by
  simp only [cmpB]
  by_cases h : a = b
  · subst h
    simp
  · by_cases h2 : a < b <;> simp [h, h2]
theorem wfB_get {x : List Int} (h : wfB x = true) (i : Nat) (hi : i < x.length) : 0 ≤ x[i] ∧ x[i] ≤ 255 := by
  have := (List.all_eq_true.1 h) x[i] (List.getElem_mem hi)
  simpa using this
theorem rd_get (x : List Int) (i : Nat) (hi : i < x.length) : Go.Proofs.YtnaicfffplnebaaW.PrintWords.rd x (i : Int) = x[i] := by
  unfold Go.Proofs.YtnaicfffplnebaaW.PrintWords.rd
  rw [Int.toNat_natCast, List.getD_eq_getElem?_getD, List.getElem?_eq_getElem hi]; rfl
theorem byt_drop (x : List Int) (i : Nat) (hi : i < x.length) : (byt x).drop i = x[i].toNat.toUInt8 :: (byt x).drop (i + 1) := by
  rw [List.drop_eq_getElem_cons (by rw [byt_length]; exact hi)]
  simp [byt]
theorem wrap64_in (n : Int) (h0 : -9223372036854775808 ≤ n) (h1 : n ≤ 9223372036854775807) : wrap64 n = n := by
  simp only [wrap64]; omega
theorem u8_lt {a b : Int} (ha : 0 ≤ a ∧ a ≤ 255) (hb : 0 ≤ b ∧ b ≤ 255) : a.toNat.toUInt8 < b.toNat.toUInt8 ↔ a < b := by
  rw [UInt8.lt_iff_toNat_lt]
  simp only [Nat.toUInt8, UInt8.toNat_ofNat']
  omega
theorem u8_eq {a b : Int} (ha : 0 ≤ a ∧ a ≤ 255) (hb : 0 ≤ b ∧ b ≤ 255) : a.toNat.toUInt8 = b.toNat.toUInt8 ↔ a = b := by
  rw [← UInt8.toNat_inj]
  simp only [Nat.toUInt8, UInt8.toNat_ofNat']
  omega
theorem below_l0 {x y : List Int} (hx : wfB x = true) (hy : wfB y = true) (hl : x.length ≤ 140737488355328) : ∀ (m i k : Nat), x.length - i = m → i ≤ x.length → i ≤ y.length → 2 * m + 2 ≤ k →
    PIds.tattingref1_Below.l0 k x y i = some (decide (cmpB ((byt x).drop i) ((byt y).drop i) < 0))
  | m, i, k, hm, hix, hiy, hk => by
    obtain ⟨k, rfl⟩ : ∃ k', k = k' + 2 := ⟨k - 2, by omega⟩
    by_cases h1 : i < x.length
    · by_cases h2 : i < y.length
      · have hxi := wfB_get hx i h1
        have hyi := wfB_get hy i h2
        simp only [PIds.tattingref1_Below.l0, PIds.tattingref1_Below.j1]
        rw [if_pos (by omega), if_pos (by simpa using h2), if_pos (by omega), if_pos (by omega), if_pos (by omega), rd_get x i h1, rd_get y i h2, byt_drop x i h1, byt_drop y i h2]
        by_cases he : x[i] = y[i]
        · rw [if_pos he, wrap64_in _ (by omega) (by omega)]
          have ih := below_l0 hx hy hl (m - 1) (i + 1) k (by omega) (by omega) (by omega) (by omega)
          rw [show ((i : Int) + 1) = ((i + 1 : Nat) : Int) by omega, ih]
          congr 1
          rw [decide_eq_decide, cmpB_cons, u8_lt hxi hyi, u8_eq hxi hyi]
          constructor
          · exact fun h => .inr ⟨he, h⟩
          · rintro (h | h)
            · omega
            · exact h.2
        · rw [if_neg he]
          congr 1
          rw [decide_eq_decide, cmpB_cons, u8_lt hxi hyi, u8_eq hxi hyi]
          constructor
          · exact .inl
          · rintro (h | h)
            · exact h
            · exact absurd h.1 he
      · simp only [PIds.tattingref1_Below.l0, PIds.tattingref1_Below.j1]
        rw [if_pos (by omega), if_neg (by simpa using h2)]
        congr 1
        rw [show (byt y).drop i = [] from List.drop_eq_nil_of_le (by rw [byt_length]; omega), byt_drop x i h1]
        rw [decide_eq_decide]
        simp only [cmpB]
        omega
    · simp only [PIds.tattingref1_Below.l0, PIds.tattingref1_Below.j1]
      rw [if_neg (by omega), if_neg (by simp)]
      congr 1
      rw [show (byt x).drop i = [] from List.drop_eq_nil_of_le (by rw [byt_length]; omega)]
      by_cases h2 : i < y.length
      · rw [byt_drop y i h2]
        simp [cmpB]; omega
      · rw [show (byt y).drop i = [] from List.drop_eq_nil_of_le (by rw [byt_length]; omega)]
        simp [cmpB]; omega
theorem below_f {x y : List Int} (hx : wfB x = true) (hy : wfB y = true) (hl : x.length ≤ 140737488355328) : PIds.tattingref1_Below.f (2 * x.length + 2) x y = some (decide (ltT x y)) :=
  below_l0 hx hy hl x.length 0 _ (by omega) (by omega) (by omega) (Nat.le_refl _)
theorem same_f (x y : List Int) : PIds.tattingref1_Same.f x y = some (decide (byt x = byt y)) := by
  unfold PIds.tattingref1_Same.f
  congr 1
  have : ∀ l, (strOfNums l).toList = byt l := fun l => by rw [ByteArray.toList_eq]; rfl
  rw [this, this]
  by_cases h : byt x = byt y <;> simp [h]
end Go.Proofs.Ytnaicfffplnebaa.Man
