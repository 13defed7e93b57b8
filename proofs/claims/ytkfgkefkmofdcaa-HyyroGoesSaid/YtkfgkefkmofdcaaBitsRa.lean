/- The laws of rows of bits: what all use. -/
import Derived.Test.YtkfgkefkmofdcaaBitsP
import Derived.WalkArith
import Derived.Test.YtkfgkefkmofdcaaPLyA
import Derived.Test.YtkfgkefkmofdcaaPLyL
namespace Go.Proofs.Ytkfgkefkmofdcaa.Man
open Go.RowKit Go.Proofs.YtkfgkefkmofdcaaW.PrintWords Go.Proofs.YtkfgkefkmofdcaaW.PrintLast Go.Proofs.YtkfgkefkmofdcaaW.PrintMore
open Go.Proofs.BitsMath

theorem tdiv_n (j : Nat) (h : j < 4611686018427387904) : wrap64 (Int.tdiv (j : Int) 64) = ((j / 64 : Nat) : Int) := by
  rw [Int.tdiv_eq_ediv_of_nonneg (by omega)]
  unfold wrap64; omega
theorem tmod_n (j : Nat) : IntKind.u64.wrap (Int.tmod (j : Int) 64) = ((j % 64 : Nat) : Int) := by
  rw [Int.tmod_eq_emod_of_nonneg (by omega), wrap_u64 _ (by omega) (by omega)]; omega
theorem rdOf_n (x : List Bool) (k : Nat) : rdOf false x (k : Int) = x.getD k false := by
  unfold rdOf
  rw [Int.toNat_natCast]
theorem mkRow_set' (W : Nat) (p : Nat → Bool) (j : Nat) (hj : j / 64 < W) : (mkRow W p).set (j / 64) (word fun i => p (64 * (j / 64) + i) || (i == j % 64)) = mkRow W fun i => p i || (i == j) := by
  rw [mkRow_set W p (j / 64) (j % 64) (Nat.mod_lt _ (by decide)) hj]
  refine mkRow_congr fun i _ => ?_
  rw [show 64 * (j / 64) + j % 64 = j by omega]
theorem laid_loop (x : List Bool) (W : Nat) (hW : W ≤ 16384) (hx : x.length ≤ 64 * W) (d : Nat) : ∀ j k, x.length - j = d → j ≤ x.length → 2 * d + 1 < k → PL.tattingref5_Laid.l0 k x W (mkRow W fun i => decide (i < j) && x.getD i false) j = some (mkRow W fun i => x.getD i false) := by
  induction d with
  | zero =>
    intro j k hd hj hk
    obtain ⟨k, rfl⟩ : ∃ m, k = m + 2 := ⟨k - 2, by omega⟩
    simp only [PL.tattingref5_Laid.l0]
    rw [if_neg (by omega)]
    simp only [PL.tattingref5_Laid.j1]
    rw [if_neg (by simp)]
    refine congrArg some (mkRow_congr fun i _ => ?_)
    by_cases hi : i < j
    · rw [decide_eq_true hi, Bool.true_and]
    · rw [decide_eq_false hi, Bool.false_and, List.getD_eq_getElem?_getD, List.getElem?_eq_none (by omega)]; rfl
  | succ d ih =>
    intro j k hd hj hk
    obtain ⟨k, rfl⟩ : ∃ m, k = m + 2 := ⟨k - 2, by omega⟩
    have hjW : j / 64 < W := by omega
    simp only [PL.tattingref5_Laid.l0]
    rw [if_pos (by omega), tdiv_n j (by omega)]
    simp only [PL.tattingref5_Laid.j1]
    rw [if_pos (decide_eq_true (by omega)), if_pos (by omega), if_pos (by omega), rdOf_n, tdiv_n j (by omega), tmod_n j, w_succ j (by omega), mkRow_length]
    have ih' := ih (j + 1) k (by omega) (by omega) (by omega)
    by_cases hb : x.getD j false = true
    · rw [if_pos hb, if_pos (by omega), if_pos (by omega), if_pos (by omega), rd_mkRow _ _ _ hjW, shl_one _ (Nat.mod_lt _ (by decide)), one_word _ (Nat.mod_lt _ (by decide)), bor, Int.toNat_natCast, mkRow_set' W _ j hjW]
      have e : (mkRow W fun i => (decide (i < j) && x.getD i false) || (i == j)) = mkRow W fun i => decide (i < j + 1) && x.getD i false := mkRow_congr fun i _ => by
        by_cases hi : i = j
        · subst hi; rw [hb]; simp
        · have h1 : (i == j) = false := by simpa using hi
          have h2 : decide (i < j + 1) = decide (i < j) := by congr 1; apply propext; omega
          rw [h1, h2, Bool.or_false]
      rw [e]
      exact ih'
    · rw [if_neg hb]
      have e : (mkRow W fun i => (decide (i < j) && x.getD i false)) = mkRow W fun i => decide (i < j + 1) && x.getD i false := mkRow_congr fun i _ => by
        by_cases hi : i = j
        · subst hi
          have : x.getD i false = false := by simpa using hb
          rw [this]; simp
        · have h2 : decide (i < j + 1) = decide (i < j) := by congr 1; apply propext; omega
          rw [h2]
      rw [e]
      exact ih'
theorem laid_f (k : Nat) (x : List Bool) (W : Nat) (hW : W ≤ 16384) (hx : x.length ≤ 64 * W) (hk : 2 * x.length + 1 < k) : PL.tattingref5_Laid.f k x W = some (mkRow W fun i => x.getD i false) := by
  unfold PL.tattingref5_Laid.f
  have e : List.replicate W (0 : Int) = mkRow W fun i => decide (i < 0) && x.getD i false := by
    apply List.ext_getElem?
    intro q
    by_cases hq : q < W
    · rw [mkRow_get _ _ q hq, List.getElem?_replicate, if_pos hq, zero_word]
      exact congrArg some (word_congr fun i _ => by simp)
    · rw [List.getElem?_eq_none (by simp; omega), List.getElem?_eq_none (by rw [mkRow_length]; omega)]
  rw [if_pos (by omega), if_pos (by omega), Int.toNat_natCast, e]
  exact laid_loop x W hW hx x.length 0 k (by omega) (by omega) hk
theorem words5_f (n : Nat) (hn : n ≤ 1048576) : PL.tattingref5_Words.f (n : Int) = some (wds n : Int) := by
  have h1 : PL.tattingref5_Width.f (n : Int) = some (n : Int) := by
    unfold PL.tattingref5_Width.f
    rw [if_neg (by omega), if_neg (by omega)]
  have hd : PL.tattingref5_Words.f (n : Int) = (PL.tattingref5_Width.f (n : Int)).bind fun t => (some (wrap64 (Int.tdiv (wrap64 (t + 63)) 64))) := by unfold PL.tattingref5_Words.f; rfl
  have e1 : wrap64 ((n : Int) + 63) = ((n + 63 : Nat) : Int) := by unfold wrap64; omega
  rw [hd, h1, Option.bind_some, e1, tdiv_n _ (by omega)]
  rfl
theorem rdL2'_n (x : List (List Int)) (k : Nat) : PL.rd_L2 x (k : Int) = x.getD k [] := by
  unfold PL.rd_L2
  rw [Int.toNat_natCast]
theorem same_self (x : List Int) (hx : x.length ≤ 1048576) (d : Nat) : ∀ j k, x.length - j = d → j ≤ x.length → d < k → PL.tattingref5_Same.l0 k x x (j : Int) = some true := by
  induction d with
  | zero =>
    intro j k hd hj hk
    obtain ⟨k, rfl⟩ : ∃ m, k = m + 1 := ⟨k - 1, by omega⟩
    simp only [PL.tattingref5_Same.l0]
    rw [if_neg (by omega)]
  | succ d ih =>
    intro j k hd hj hk
    obtain ⟨k, rfl⟩ : ∃ m, k = m + 1 := ⟨k - 1, by omega⟩
    simp only [PL.tattingref5_Same.l0]
    rw [if_pos (by omega), if_pos (by omega), if_pos (by omega), if_pos trivial, w_succ j (by omega)]
    exact ih (j + 1) k (by omega) (by omega) (by omega)
theorem same_f (k : Nat) (x : List Int) (hx : x.length ≤ 1048576) (hk : x.length < k) : PL.tattingref5_Same.f k x x = some true := by
  unfold PL.tattingref5_Same.f
  rw [if_pos rfl]
  exact same_self x hx x.length 0 k (by omega) (by omega) hk
theorem sameRows_self (x : List (List Int)) (N : Nat) (hN : N ≤ 1048576) (hx : x.length ≤ 1048576) (hr : ∀ r ∈ x, r.length ≤ N) (d : Nat) : ∀ j k, x.length - j = d → j ≤ x.length → d + N < k → PL.tattingref20_SameRows.l0 k x x (j : Int) = some true := by
  induction d with
  | zero =>
    intro j k hd hj hk
    obtain ⟨k, rfl⟩ : ∃ m, k = m + 1 := ⟨k - 1, by omega⟩
    simp only [PL.tattingref20_SameRows.l0]
    rw [if_neg (by omega)]
  | succ d ih =>
    intro j k hd hj hk
    obtain ⟨k, rfl⟩ : ∃ m, k = m + 1 := ⟨k - 1, by omega⟩
    have hrl : (x.getD j []).length ≤ N := by
      rw [List.getD_eq_getElem?_getD, List.getElem?_eq_getElem (by omega)]
      exact hr _ (List.getElem_mem _)
    simp only [PL.tattingref20_SameRows.l0]
    rw [if_pos (by omega), if_pos (by omega), if_pos (by omega), rdL2'_n, same_f k _ (by omega) (by omega), Option.bind_some, if_pos rfl, w_succ j (by omega)]
    exact ih (j + 1) k (by omega) (by omega) (by omega)
theorem sameRows_f (k : Nat) (x : List (List Int)) (N : Nat) (hN : N ≤ 1048576) (hx : x.length ≤ 1048576) (hr : ∀ r ∈ x, r.length ≤ N) (hk : x.length + N < k) : PL.tattingref20_SameRows.f k x x = some true := by
  unfold PL.tattingref20_SameRows.f
  rw [if_pos rfl]
  exact sameRows_self x N hN hx hr x.length 0 k (by omega) (by omega) hk
theorem few_loop (x : List Int) (hx : x.length ≤ 1048576) (c : Nat) (hc : 0 < c) (hc2 : c ≤ 1048576) (d : Nat) : ∀ (j k : Nat) (acc : List Int), x.length - j = d → j ≤ x.length → acc.length = j → (∀ y ∈ acc, 0 ≤ y ∧ y < 1048576) → d < k → ∃ r, PL.tattingref1_Few.l0 k x (c : Int) acc (j : Int) = some r ∧ r.length = x.length ∧ ∀ y ∈ r, 0 ≤ y ∧ y < 1048576 := by
  induction d with
  | zero =>
    intro j k acc hd hj hal hac hk
    obtain ⟨k, rfl⟩ : ∃ m, k = m + 1 := ⟨k - 1, by omega⟩
    refine ⟨acc, ?_, by omega, hac⟩
    simp only [PL.tattingref1_Few.l0]
    rw [if_neg (by omega)]
  | succ d ih =>
    intro j k acc hd hj hal hac hk
    obtain ⟨k, rfl⟩ : ∃ m, k = m + 1 := ⟨k - 1, by omega⟩
    simp only [PL.tattingref1_Few.l0]
    rw [if_pos (by omega), if_pos (by omega), if_neg (by omega), w_succ j (by omega)]
    generalize YtkfgkefkmofdcaaW.PrintWords.rd x (j : Int) = v
    have hm : -(c : Int) < Int.tmod v c ∧ Int.tmod v c < c := by
      have h1 := Int.tmod_lt_of_pos v (show (0 : Int) < c by omega)
      have h2 := Int.lt_tmod_of_pos v (show (0 : Int) < c by omega)
      exact ⟨h2, h1⟩
    generalize Int.tmod v c = t at hm
    by_cases ht : t < 0
    · rw [if_pos ht, if_pos (by omega)]
      have e : wrap64 (t + c) = t + c := by unfold wrap64; omega
      rw [e]
      refine ih (j + 1) k _ (by omega) (by omega) (by simp; omega) (fun y hy => ?_) (by omega)
      rcases List.mem_append.1 hy with h | h
      · exact hac y h
      · rw [List.mem_singleton.1 h]; omega
    · rw [if_neg ht, if_pos (by omega)]
      refine ih (j + 1) k _ (by omega) (by omega) (by simp; omega) (fun y hy => ?_) (by omega)
      rcases List.mem_append.1 hy with h | h
      · exact hac y h
      · rw [List.mem_singleton.1 h]; omega
theorem few_f (k : Nat) (x : List Int) (hx : x.length ≤ 1048576) (c : Nat) (hc : 0 < c) (hc2 : c ≤ 1048576) (hk : x.length < k) : ∃ r, PL.tattingref1_Few.f k x (c : Int) = some r ∧ r.length = x.length ∧ ∀ y ∈ r, 0 ≤ y ∧ y < 1048576 := by
  unfold PL.tattingref1_Few.f
  exact few_loop x hx c hc hc2 x.length 0 k [] (by omega) (by omega) rfl (fun y hy => by cases hy) hk
theorem wfl_few (x : List Int) (h : ∀ y ∈ x, 0 ≤ y ∧ y < 1048576) : wfl x = true := by
  unfold wfl
  rw [List.all_eq_true]
  intro y hy
  exact WalkArith.wf_i64 (by have := h y hy; omega)
theorem rgood_few (a b : List Int) (ha : a.length ≤ 1048576) (hb' : b.length ≤ 1048576) (h1 : ∀ y ∈ a, 0 ≤ y ∧ y < 1048576) (h2 : ∀ y ∈ b, 0 ≤ y ∧ y < 1048576) : rgood a b = true := by
  unfold rgood
  rw [wfl_few a h1, wfl_few b h2]
  simp; omega
theorem brows_len (a b : List Int) (n : Nat) : ∀ r ∈ brows a b n, r.length ≤ wds b.length := by
  intro r hr
  obtain ⟨i, _, rfl⟩ := List.mem_map.1 hr
  rw [mkRow_length]; exact Nat.le_refl _
theorem mul_small (n m : Nat) (hn : n ≤ 41) (hm : m ≤ 395) : n * m ≤ 16195 := Nat.mul_le_mul hn hm
end Go.Proofs.Ytkfgkefkmofdcaa.Man
