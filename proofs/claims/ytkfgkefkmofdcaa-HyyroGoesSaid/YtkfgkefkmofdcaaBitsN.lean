/- What the functions of vec answer, in bits. -/
import Derived.Test.YtkfgkefkmofdcaaBitsM
import Derived.Test.YtkfgkefkmofdcaaBitsG
namespace Go.Proofs.Ytkfgkefkmofdcaa.Man
open Go.RowKit Go.Proofs.YtkfgkefkmofdcaaW.PrintWords Go.Proofs.YtkfgkefkmofdcaaW.PrintLast Go.Proofs.YtkfgkefkmofdcaaW.PrintMore
open Go.Proofs.BitsMath

theorem getD_far (x : List Int) (k : Nat) (h : x.length ≤ k) : x.getD k 0 = 0 := by
  rw [List.getD_eq_getElem?_getD, List.getElem?_eq_none h]; rfl
theorem w_succ (j : Nat) (h : j < 4611686018427387904) : wrap64 ((j : Int) + 1) = ((j + 1 : Nat) : Int) := by unfold wrap64; omega
theorem w_nat (j : Nat) (h : j < 4611686018427387904) : wrap64 (j : Int) = (j : Int) := by unfold wrap64; omega
theorem words_n (n : Nat) (hn : n ≤ 1048576) : PV.vec_Words.f (n : Int) = some (wds n : Int) := by
  have h1 : PV.vec_width.f (n : Int) = some (n : Int) := by
    unfold PV.vec_width.f
    congr 1
    have : mx (n : Int) 0 = n := by unfold mx; split <;> omega
    rw [this]
    unfold mn; split <;> omega
  unfold PV.vec_Words.f
  rw [h1]
  simp only [Option.bind_some]
  congr 1
  have e1 : wrap64 ((n : Int) + 64) = n + 64 := by unfold wrap64; omega
  have e2 : wrap64 ((n : Int) + 64 - 1) = n + 63 := by unfold wrap64; omega
  rw [e1, e2]
  unfold wds
  rw [Int.tdiv_eq_ediv_of_nonneg (by omega)]
  unfold wrap64
  omega
theorem at_n (x : List Int) (k : Nat) : PV.vec_at.f x (k : Int) = some (x.getD k 0) := by
  unfold PV.vec_at.f
  by_cases h : k < x.length
  · rw [if_pos (by omega), if_pos (by omega)]
    unfold YtkfgkefkmofdcaaW.PrintWords.rd
    rw [Int.toNat_natCast]
  · rw [if_neg (by omega), getD_far _ _ (by omega)]
theorem w_mul (k : Nat) (h : k < 1048576) : wrap64 (64 * (k : Int)) = 64 * k := by unfold wrap64; omega
theorem w_sub (n k : Nat) (h : n ≤ 1048576) (hk : 64 * k < n) : wrap64 ((n : Int) - 64 * k) = ((n - 64 * k : Nat) : Int) := by unfold wrap64; omega
theorem pow_lt (r : Nat) (hr : r < 64) : 2 ^ r < 18446744073709551616 := by
  have := Nat.pow_lt_pow_right (show 1 < 2 by decide) hr
  exact this
theorem pow_word (r : Nat) (hr : r < 64) : ((2 ^ r - 1 : Nat) : Int) = word fun i => decide (i < r) := by
  refine nat_word _ (Nat.lt_of_le_of_lt (Nat.sub_le _ _) (Nat.pow_lt_pow_right (by decide) hr)) _ (fun i _ => ?_)
  rw [Nat.testBit_two_pow_sub_one]
theorem wrap_u64 (x : Int) (h0 : 0 ≤ x) (h1 : x < 18446744073709551616) : IntKind.u64.wrap x = x := by
  simp [IntKind.wrap, IntKind.bits, IntKind.signed]; omega
theorem shl_one (r : Nat) (hr : r < 64) : shl .u64 1 (r : Int) = ((2 ^ r : Nat) : Int) := by
  have hp := pow_lt r hr
  unfold shl
  have hb : IntKind.u64.bits = 64 := rfl
  rw [hb, Int.toNat_natCast, Nat.min_eq_left (by omega), Int.one_mul, show ((2 : Int) ^ r) = ((2 ^ r : Nat) : Int) by simp]
  generalize 2 ^ r = P at hp
  exact wrap_u64 _ (by omega) (by omega)
theorem pow_less (r : Nat) (hr : r < 64) : IntKind.u64.wrap (((2 ^ r : Nat) : Int) - 1) = ((2 ^ r - 1 : Nat) : Int) := by
  have hp := pow_lt r hr
  have hp0 : 0 < 2 ^ r := Nat.two_pow_pos r
  generalize 2 ^ r = P at hp hp0
  rw [wrap_u64 _ (by omega) (by omega)]; omega
theorem mask_n (n k : Nat) (hn : n ≤ 1048576) (hk : k < wds n) : PV.vec_mask.f (n : Int) (k : Int) = some (word fun i => decide (64 * k + i < n)) := by
  have h1 : PV.vec_width.f (n : Int) = some (n : Int) := by
    unfold PV.vec_width.f
    congr 1
    have : mx (n : Int) 0 = n := by unfold mx; split <;> omega
    rw [this]
    unfold mn; split <;> omega
  have hk' : 64 * k < n := by unfold wds at hk; omega
  have hd : PV.vec_mask.f (n : Int) (k : Int) = (PV.vec_width.f (n : Int)).bind fun t => (if (wrap64 (t - (wrap64 (64 * (k : Int))))) ≥ 64 then (some 18446744073709551615) else (if 0 ≤ (IntKind.u64.wrap (wrap64 (t - (wrap64 (64 * (k : Int)))))) then (some (IntKind.u64.wrap ((shl .u64 1 (IntKind.u64.wrap (wrap64 (t - (wrap64 (64 * (k : Int))))))) - 1))) else (none))) := by unfold PV.vec_mask.f; rfl
  rw [hd, h1, Option.bind_some]
  rw [w_mul k (by unfold wds at hk; omega), w_sub n k (by omega) (by omega)]
  by_cases hr : 64 ≤ n - 64 * k
  · rw [if_pos (by omega), ones_word]
    congr 1
    exact word_congr fun i hi => by rw [decide_eq_true (by omega)]
  · rw [if_neg (by omega)]
    rw [wrap_u64 _ (by omega) (by omega), if_pos (by omega)]
    congr 1
    generalize hg : n - 64 * k = r at *
    rw [shl_one r (by omega), pow_less r (by omega), pow_word r (by omega)]
    exact word_congr fun i hi => by congr 1; apply propext; omega

/-- A list whose elements are words. -/
def wfw (x : List Int) : Prop := ∀ y ∈ x, 0 ≤ y ∧ y < 18446744073709551616
/-- Its bits. -/
def bitL (x : List Int) (i : Nat) : Bool := (x.getD (i / 64) 0).toNat.testBit (i % 64)
theorem wfw_row (W : Nat) (p : Nat → Bool) : wfw (mkRow W p) := by
  intro y hy
  obtain ⟨k, _, rfl⟩ := List.mem_map.1 hy
  exact word_lt _
theorem wfw_nil : wfw [] := fun y hy => by cases hy
theorem getD_word {x : List Int} (h : wfw x) (k : Nat) : x.getD k 0 = word fun i => bitL x (64 * k + i) := by
  have hb : 0 ≤ x.getD k 0 ∧ x.getD k 0 < 18446744073709551616 := by
    rw [List.getD_eq_getElem?_getD]
    by_cases hk : k < x.length
    · rw [List.getElem?_eq_getElem hk]; exact h _ (List.getElem_mem hk)
    · rw [List.getElem?_eq_none (by omega)]; exact ⟨by decide, by decide⟩
  have := nat_word (x.getD k 0).toNat (by omega) (fun i => bitL x (64 * k + i)) (fun i hi => by
    unfold bitL
    rw [show (64 * k + i) / 64 = k by omega, show (64 * k + i) % 64 = i by omega])
  omega
theorem bitL_row (W : Nat) (p : Nat → Bool) (i : Nat) : bitL (mkRow W p) i = (decide (i < 64 * W) && p i) := by
  unfold bitL
  by_cases h : i / 64 < W
  · rw [List.getD_eq_getElem?_getD, mkRow_get W p _ h]
    show (word _).toNat.testBit (i % 64) = _
    rw [testBit_word]
    have e : 64 * (i / 64) + i % 64 = i := by omega
    simp only [e]
    rw [decide_eq_true (show i % 64 < 64 by omega), decide_eq_true (show i < 64 * W by omega)]
  · rw [getD_far _ _ (by rw [mkRow_length]; omega), decide_eq_false (by omega)]
    simp
theorem bitL_nil (i : Nat) : bitL [] i = false := by simp [bitL]
theorem set_step {T y : List Int} {j : Nat} (hl : y.length = T.length) (hj : j < T.length) (h : ∀ i, i < j → y[i]? = T[i]?) : ∀ i, i < j + 1 → (y.set j T[j])[i]? = T[i]? := by
  intro i hi
  rw [List.getElem?_set]
  by_cases e : j = i
  · subst e
    rw [if_pos rfl, if_pos (by omega), List.getElem?_eq_getElem hj]
  · rw [if_neg e]; exact h i (by omega)
theorem set_end {T y : List Int} (hl : y.length = T.length) (h : ∀ i, i < T.length → y[i]? = T[i]?) : y = T := by
  apply List.ext_getElem?
  intro i
  by_cases hi : i < T.length
  · exact h i hi
  · rw [List.getElem?_eq_none (by omega), List.getElem?_eq_none (by omega)]
theorem mkRow_getElem {W : Nat} {p : Nat → Bool} {j : Nat} (h : j < (mkRow W p).length) : (mkRow W p)[j] = word fun i => p (64 * j + i) := by
  have := mkRow_get W p j (by rwa [mkRow_length] at h)
  rw [List.getElem?_eq_getElem h] at this
  exact Option.some.inj this

theorem fit_loop (x : List Int) (hx : wfw x) (n : Nat) (hn : n ≤ 1048576) (d : Nat) : ∀ (k j : Nat) (y : List Int), wds n - j = d → d < k → j ≤ wds n → y.length = wds n → (∀ i, i < j → y[i]? = (mkRow (wds n) fun i => bitL x i && decide (i < n))[i]?) →
    PV.vec_Fit.l0 k x n y (wds n) j = some (mkRow (wds n) fun i => bitL x i && decide (i < n)) := by
  have hW : wds n ≤ 16384 := by unfold wds; omega
  induction d with
  | zero =>
    intro k j y hd hk hj hl h
    obtain ⟨k, rfl⟩ : ∃ m, k = m + 1 := ⟨k - 1, by omega⟩
    simp only [PV.vec_Fit.l0]
    rw [if_neg (by omega)]
    congr 1
    exact set_end (by rw [hl, mkRow_length]) (fun i hi => h i (by rw [mkRow_length] at hi; omega))
  | succ d ih =>
    intro k j y hd hk hj hl h
    obtain ⟨k, rfl⟩ : ∃ m, k = m + 1 := ⟨k - 1, by omega⟩
    simp only [PV.vec_Fit.l0]
    rw [if_pos (by omega), at_n, mask_n n j hn (by omega)]
    simp only [Option.bind_some]
    rw [if_pos (by omega), if_pos (by omega), getD_word hx j, band, w_succ j (by omega), Int.toNat_natCast]
    have hjl : j < (mkRow (wds n) fun i => bitL x i && decide (i < n)).length := by rw [mkRow_length]; omega
    have := set_step (T := mkRow (wds n) fun i => bitL x i && decide (i < n)) (y := y) (by rw [hl, mkRow_length]) hjl h
    rw [mkRow_getElem hjl] at this
    exact ih k (j + 1) _ (by omega) (by omega) (by omega) (by rw [List.length_set]; exact hl) this
theorem fit_n (k : Nat) (x : List Int) (hx : wfw x) (n : Nat) (hn : n ≤ 1048576) (hk : wds n < k) : PV.vec_Fit.f k x n = some (mkRow (wds n) fun i => bitL x i && decide (i < n)) := by
  unfold PV.vec_Fit.f
  rw [words_n n hn]
  simp only [Option.bind_some]
  have hW : wds n ≤ 16384 := by unfold wds; omega
  rw [if_pos (by omega), if_pos (by omega), Int.toNat_natCast, List.length_replicate]
  exact fit_loop x hx n hn (wds n) k 0 _ (by omega) hk (Nat.zero_le _) (by simp) (fun i hi => by omega)
end Go.Proofs.Ytkfgkefkmofdcaa.Man
