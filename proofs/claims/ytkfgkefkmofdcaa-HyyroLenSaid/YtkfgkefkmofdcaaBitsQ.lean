/- The references' table, its rows of bits; numbers brought to a few. -/
import Derived.Test.YtkfgkefkmofdcaaBitsP
import Derived.WalkArith
namespace Go.Proofs.Ytkfgkefkmofdcaa.Man
open Go.RowKit Go.Proofs.YtkfgkefkmofdcaaW.PrintWords Go.Proofs.YtkfgkefkmofdcaaW.PrintLast Go.Proofs.YtkfgkefkmofdcaaW.PrintMore
open Go.Proofs.BitsMath

theorem rd_n (x : List Int) (k : Nat) : YtkfgkefkmofdcaaW.PrintWords.rd x (k : Int) = x.getD k 0 := by
  unfold YtkfgkefkmofdcaaW.PrintWords.rd
  rw [Int.toNat_natCast]
theorem w_pred (j : Nat) (h : j < 4611686018427387904) : wrap64 ((j : Int) - 1) = (j : Int) - 1 := by unfold wrap64; omega
theorem turned_loop (x : List Int) (hx : x.length ≤ 1048576) : ∀ (j k : Nat) (acc : List Int), j ≤ x.length → j < k → acc.length + j ≤ 1048576 → PV.tattingref7_Turned.l0 k x acc ((j : Int) - 1) = some (acc ++ (x.take j).reverse)
  | 0, k, acc, _, hk, _ => by
    obtain ⟨k, rfl⟩ : ∃ m, k = m + 1 := ⟨k - 1, by omega⟩
    simp only [PV.tattingref7_Turned.l0]
    rw [if_neg (by omega)]; simp
  | j + 1, k, acc, hj, hk, ha => by
    obtain ⟨k, rfl⟩ : ∃ m, k = m + 1 := ⟨k - 1, by omega⟩
    simp only [PV.tattingref7_Turned.l0]
    rw [show (((j + 1 : Nat) : Int) - 1) = (j : Int) by omega, if_pos (by omega), if_pos (by omega), if_pos (by omega), if_pos (by omega), w_pred j (by omega), turned_loop x hx j k (acc ++ [YtkfgkefkmofdcaaW.PrintWords.rd x j]) (by omega) (by omega) (by simp; omega), rev_take x j (by omega), rd_n]
    simp
theorem turned_f (k : Nat) (x : List Int) (hx : x.length ≤ 1048576) (hk : x.length < k) : PV.tattingref7_Turned.f k x = some x.reverse := by
  unfold PV.tattingref7_Turned.f
  rw [w_pred _ (by omega), turned_loop x hx x.length k [] (Nat.le_refl _) hk (by simp; omega)]
  simp

/-- A row of the table from the ends on. -/
def trow (a b : List Int) (i : Nat) : List Int := (List.range (b.length + 1)).map fun j => (lcs (a.drop i) (b.drop j) : Int)
/-- .. of which the places from j on are laid. -/
def prow (a b : List Int) (i j : Nat) : List Int := (List.range (b.length + 1)).map fun q => if j ≤ q then (lcs (a.drop i) (b.drop q) : Int) else 0
/-- The table, the rows from i on. -/
def ttab (a b : List Int) (i : Nat) : List (List Int) := (List.range (a.length + 1)).map fun q => if i ≤ q then trow a b q else []
theorem trow_length (a b : List Int) (i : Nat) : (trow a b i).length = b.length + 1 := by simp [trow]
theorem prow_length (a b : List Int) (i j : Nat) : (prow a b i j).length = b.length + 1 := by simp [prow]
theorem ttab_length (a b : List Int) (i : Nat) : (ttab a b i).length = a.length + 1 := by simp [ttab]
theorem prow_zero (a b : List Int) (i : Nat) : prow a b i 0 = trow a b i := by
  unfold prow trow
  exact List.map_congr_left fun q _ => by rw [if_pos (Nat.zero_le _)]
theorem prow_start (a b : List Int) (i : Nat) : prow a b i b.length = List.replicate (b.length + 1) 0 := by
  apply List.ext_getElem?
  intro q
  by_cases hq : q < b.length + 1
  · rw [prow, List.getElem?_map, List.getElem?_range hq, List.getElem?_replicate, if_pos hq]
    show some (if b.length ≤ q then (lcs (a.drop i) (b.drop q) : Int) else 0) = some 0
    by_cases h : b.length ≤ q
    · rw [if_pos h, List.drop_eq_nil_of_le h, lcs_nil_right]; rfl
    · rw [if_neg h]
  · rw [List.getElem?_eq_none (by simp [prow]; omega), List.getElem?_eq_none (by simp; omega)]
theorem prow_end (a b : List Int) (i : Nat) (hi : a.length ≤ i) : prow a b i b.length = trow a b i := by
  rw [prow_start]
  apply List.ext_getElem?
  intro q
  by_cases hq : q < b.length + 1
  · rw [trow, List.getElem?_map, List.getElem?_range hq, List.getElem?_replicate, if_pos hq]
    show some 0 = some ((lcs (a.drop i) (b.drop q) : Nat) : Int)
    rw [List.drop_eq_nil_of_le hi, lcs_nil_left]; rfl
  · rw [List.getElem?_eq_none (by simp; omega), List.getElem?_eq_none (by simp [trow]; omega)]
theorem prow_set (a b : List Int) (i j : Nat) (_hj : j < b.length) : (prow a b i (j + 1)).set j (lcs (a.drop i) (b.drop j) : Int) = prow a b i j := by
  apply List.ext_getElem?
  intro q
  by_cases hq : q < b.length + 1
  · rw [List.getElem?_set, prow_length]
    simp only [prow, List.getElem?_map, List.getElem?_range hq, Option.map_some]
    by_cases e : j = q
    · subst e; simp [hq]
    · rw [if_neg e]
      have : (j + 1 ≤ q) ↔ (j ≤ q) := by omega
      simp only [this]
  · rw [List.getElem?_eq_none (by simp [prow]; omega), List.getElem?_eq_none (by simp [prow]; omega)]
theorem prow_at (a b : List Int) (i j q : Nat) (hq : q < b.length + 1) (hj : j ≤ q) : (prow a b i j).getD q 0 = (lcs (a.drop i) (b.drop q) : Int) := by
  rw [List.getD_eq_getElem?_getD, prow, List.getElem?_map, List.getElem?_range hq]
  show (if j ≤ q then _ else _) = _
  rw [if_pos hj]
theorem trow_at (a b : List Int) (i q : Nat) (hq : q < b.length + 1) : (trow a b i).getD q 0 = (lcs (a.drop i) (b.drop q) : Int) := by
  rw [← prow_zero, prow_at a b i 0 q hq (Nat.zero_le _)]
theorem ttab_at (a b : List Int) (i q : Nat) (hq : q < a.length + 1) (hi : i ≤ q) : (ttab a b i).getD q [] = trow a b q := by
  rw [List.getD_eq_getElem?_getD, ttab, List.getElem?_map, List.getElem?_range hq]
  show (if i ≤ q then _ else _) = _
  rw [if_pos hi]
theorem ttab_set (a b : List Int) (i : Nat) (_hi : i < a.length + 1) : (ttab a b (i + 1)).set i (trow a b i) = ttab a b i := by
  apply List.ext_getElem?
  intro q
  by_cases hq : q < a.length + 1
  · rw [List.getElem?_set, ttab_length]
    simp only [ttab, List.getElem?_map, List.getElem?_range hq, Option.map_some]
    by_cases e : i = q
    · subst e; simp [hq]
    · rw [if_neg e]
      have : (i + 1 ≤ q) ↔ (i ≤ q) := by omega
      simp only [this]
  · rw [List.getElem?_eq_none (by simp [ttab]; omega), List.getElem?_eq_none (by simp [ttab]; omega)]
theorem rdL2_n (x : List (List Int)) (k : Nat) : PV.rd_L2 x (k : Int) = x.getD k [] := by
  unfold PV.rd_L2
  rw [Int.toNat_natCast]
theorem getD_set_ne (x : List (List Int)) (i j : Nat) (v : List Int) (h : i ≠ j) : (x.set i v).getD j [] = x.getD j [] := by
  rw [List.getD_eq_getElem?_getD, List.getD_eq_getElem?_getD, List.getElem?_set, if_neg h]
theorem getD_set_eq (x : List (List Int)) (i : Nat) (v : List Int) (h : i < x.length) : (x.set i v).getD i [] = v := by
  rw [List.getD_eq_getElem?_getD, List.getElem?_set, if_pos rfl, if_pos h]; rfl
theorem lcs_drop (a b : List Int) (i j : Nat) (hi : i < a.length) (hj : j < b.length) : lcs (a.drop i) (b.drop j) = if a.getD i 0 = b.getD j 0 then lcs (a.drop (i + 1)) (b.drop (j + 1)) + 1 else max (lcs (a.drop (i + 1)) (b.drop j)) (lcs (a.drop i) (b.drop (j + 1))) := by
  have e1 : a.drop i = a.getD i 0 :: a.drop (i + 1) := by
    rw [List.drop_eq_getElem_cons hi, List.getD_eq_getElem?_getD, List.getElem?_eq_getElem hi]; rfl
  have e2 : b.drop j = b.getD j 0 :: b.drop (j + 1) := by
    rw [List.drop_eq_getElem_cons hj, List.getD_eq_getElem?_getD, List.getElem?_eq_getElem hj]; rfl
  conv => lhs; rw [e1, e2]
  rw [lcs_cons, ← e1, ← e2]
theorem lcs_small (a b : List Int) : lcs a b ≤ a.length := by
  obtain ⟨l, h1, _, h3⟩ := lcs_attained a b
  rw [← h3]; exact h1.length_le
theorem mx_nat (x y : Nat) : mx (x : Int) (y : Int) = ((max x y : Nat) : Int) := by unfold mx; split <;> omega
/-- The inner loop: row i, from place j on laid; then the outer one goes on. -/
theorem behind_in (a b : List Int) (ha : a.length ≤ 1048576) (hb : b.length ≤ 1048576) (i : Nat) (hi : i < a.length) (F : Nat) (r : List (List Int)) (hout : ∀ k, F < k → PV.tattingref7_Behind.l0 k a b (ttab a b i) ((i : Int) - 1) = some r) :
    ∀ j k, j ≤ b.length → 2 * j + 2 + F < k → PV.tattingref7_Behind.l1 k a b ((ttab a b (i + 1)).set i (prow a b i j)) (i : Int) ((j : Int) - 1) = some r
  | 0, k, _, hk => by
    obtain ⟨k, rfl⟩ : ∃ m, k = m + 2 := ⟨k - 2, by omega⟩
    simp only [PV.tattingref7_Behind.l1]
    rw [if_pos (by omega)]
    simp only [PV.tattingref7_Behind.j2]
    rw [if_neg (by simp), prow_zero, ttab_set a b i (by omega), w_pred i (by omega)]
    exact hout k (by omega)
  | j + 1, k, hj, hk => by
    obtain ⟨k, rfl⟩ : ∃ m, k = m + 2 := ⟨k - 2, by omega⟩
    have hT : ((ttab a b (i + 1)).set i (prow a b i (j + 1))).length = a.length + 1 := by rw [List.length_set, ttab_length]
    have hR : ((ttab a b (i + 1)).set i (prow a b i (j + 1))).getD i [] = prow a b i (j + 1) := getD_set_eq _ _ _ (by rw [ttab_length]; omega)
    have hR1 : ((ttab a b (i + 1)).set i (prow a b i (j + 1))).getD (i + 1) [] = trow a b (i + 1) := by rw [getD_set_ne _ _ _ _ (by omega), ttab_at a b (i + 1) (i + 1) (by omega) (Nat.le_refl _)]
    have hset : ((ttab a b (i + 1)).set i (prow a b i (j + 1))).set i (prow a b i j) = (ttab a b (i + 1)).set i (prow a b i j) := List.set_set ..
    have hs := lcs_small (a.drop i) (b.drop j)
    have hs1 := lcs_small (a.drop (i + 1)) (b.drop (j + 1))
    rw [List.length_drop] at hs hs1
    simp only [PV.tattingref7_Behind.l1]
    rw [if_pos (by omega), show (((j + 1 : Nat) : Int) - 1) = (j : Int) by omega]
    simp only [PV.tattingref7_Behind.j2]
    rw [if_pos (by simp), if_pos (by omega), if_pos (by omega), if_pos (by omega), if_pos (by omega), rd_n, rd_n]
    rw [w_succ i (by omega), w_succ j (by omega), rdL2_n, rdL2_n, hR, hR1, hT, prow_length, trow_length, w_pred j (by omega), Int.toNat_natCast, Int.toNat_natCast, rd_n, rd_n, rd_n, trow_at a b (i + 1) (j + 1) (by omega), trow_at a b (i + 1) j (by omega), prow_at a b i (j + 1) (j + 1) (by omega) (Nat.le_refl _)]
    have ih := behind_in a b ha hb i hi F r hout j k (by omega) (by omega)
    by_cases he : a.getD i 0 = b.getD j 0
    · rw [if_pos he, if_pos (by omega), if_pos (by omega), if_pos (by omega), if_pos (by omega), if_pos (by omega), if_pos (by omega)]
      have e1 : wrap64 ((lcs (a.drop (i + 1)) (b.drop (j + 1)) : Int) + 1) = (lcs (a.drop i) (b.drop j) : Int) := by
        rw [lcs_drop a b i j hi (by omega), if_pos he, w_succ _ (by omega)]
      rw [e1, prow_set a b i j (by omega), hset]
      exact ih
    · rw [if_neg he, if_pos (by omega), if_pos (by omega), if_pos (by omega), if_pos (by omega), if_pos (by omega), if_pos (by omega), if_pos (by omega)]
      have e1 : mx (lcs (a.drop (i + 1)) (b.drop j) : Int) (lcs (a.drop i) (b.drop (j + 1)) : Int) = (lcs (a.drop i) (b.drop j) : Int) := by
        rw [mx_nat, lcs_drop a b i j hi (by omega), if_neg he]
      rw [e1, prow_set a b i j (by omega), hset]
      exact ih
/-- The outer loop. -/
theorem behind_out (a b : List Int) (ha : a.length ≤ 1048576) (hb : b.length ≤ 1048576) : ∀ i k, i ≤ a.length + 1 → i * (2 * b.length + 4) < k → PV.tattingref7_Behind.l0 k a b (ttab a b i) ((i : Int) - 1) = some (ttab a b 0)
  | 0, k, _, hk => by
    obtain ⟨k, rfl⟩ : ∃ m, k = m + 1 := ⟨k - 1, by omega⟩
    simp only [PV.tattingref7_Behind.l0]
    rw [if_neg (by omega)]
  | i + 1, k, hi, hk => by
    have hk' : i * (2 * b.length + 4) + (2 * b.length + 4) < k := by rw [Nat.succ_mul] at hk; exact hk
    obtain ⟨k, rfl⟩ : ∃ m, k = m + 1 := ⟨k - 1, by omega⟩
    have ih := behind_out a b ha hb i
    simp only [PV.tattingref7_Behind.l0]
    rw [show (((i + 1 : Nat) : Int) - 1) = (i : Int) by omega, if_pos (by omega), w_succ b.length (by omega), if_pos (by omega), if_pos (by omega), if_pos (by omega), ttab_length, if_pos (by omega), Int.toNat_natCast, Int.toNat_natCast, w_pred b.length (by omega), ← prow_start a b i]
    by_cases hia : i < a.length
    · exact behind_in a b ha hb i hia (i * (2 * b.length + 4)) (ttab a b 0) (fun k hk => ih k (by omega) hk) b.length k (Nat.le_refl _) (by omega)
    · obtain ⟨k, rfl⟩ : ∃ m, k = m + 2 := ⟨k - 2, by omega⟩
      simp only [PV.tattingref7_Behind.l1]
      rw [if_neg (by omega)]
      simp only [PV.tattingref7_Behind.j2]
      rw [if_neg (by simp), prow_end a b i (by omega), ttab_set a b i (by omega), w_pred i (by omega)]
      exact ih k (by omega) (by omega)
theorem behind_f (k : Nat) (a b : List Int) (ha : a.length ≤ 1048576) (hb : b.length ≤ 1048576) (hk : (a.length + 1) * (2 * b.length + 4) < k) : PV.tattingref7_Behind.f k a b = some (ttab a b 0) := by
  unfold PV.tattingref7_Behind.f
  have e : List.replicate (a.length + 1) ([] : List Int) = ttab a b (a.length + 1) := by
    apply List.ext_getElem?
    intro q
    by_cases hq : q < a.length + 1
    · rw [ttab, List.getElem?_map, List.getElem?_range hq, List.getElem?_replicate, if_pos hq]
      show some [] = some (if a.length + 1 ≤ q then trow a b q else [])
      rw [if_neg (by omega)]
    · rw [List.getElem?_eq_none (by simp; omega), List.getElem?_eq_none (by simp [ttab]; omega)]
  rw [w_succ a.length (by omega), if_pos (by omega), if_pos (by omega), Int.toNat_natCast, e]
  have := behind_out a b ha hb (a.length + 1) k (Nat.le_refl _) hk
  rwa [show (((a.length + 1 : Nat) : Int) - 1) = (a.length : Int) by omega] at this
/-- The table, from its beginning on. -/
def atab (a b : List Int) : List (List Int) := (List.range (a.length + 1)).map fun i => (List.range (b.length + 1)).map fun j => (hb a b i j : Int)
theorem ahead_f (k : Nat) (a b : List Int) (ha : a.length ≤ 1048576) (hb' : b.length ≤ 1048576) (hk : (a.length + 1) * (2 * b.length + 4) < k) (hk2 : b.length < k) : tattingref7_Ahead.f k a b = some (atab a b) := by
  have hka : a.length < k := by
    have : a.length + 1 ≤ (a.length + 1) * (2 * b.length + 4) := Nat.le_mul_of_pos_right _ (by omega)
    omega
  unfold tattingref7_Ahead.f
  rw [turned_f k a ha hka, Option.bind_some, turned_f k b hb' hk2, Option.bind_some, behind_f k a.reverse b.reverse (by simpa using ha) (by simpa using hb') (by simpa using hk), Option.bind_some]
  have hsh : ashape (ttab a.reverse b.reverse 0) a.length b.length = true := by
    unfold ashape
    simp only [Bool.and_eq_true, decide_eq_true_eq, List.all_eq_true]
    refine ⟨by rw [ttab_length]; simp, fun r hr => ?_, by omega, by omega⟩
    obtain ⟨q, _, rfl⟩ := List.mem_map.1 hr
    rw [if_pos (Nat.zero_le _), trow_length]; simp
  rw [if_pos hsh]
  refine congrArg some ?_
  unfold aheadT atab
  refine List.map_congr_left fun i hi => List.map_congr_left fun j hj => ?_
  have hi := List.mem_range.1 hi
  have hj := List.mem_range.1 hj
  rw [ttab_at _ _ _ _ (by simp; omega) (Nat.zero_le _), trow_at _ _ _ _ (by simp; omega)]
  unfold hb
  rw [List.drop_reverse, List.drop_reverse, show a.length - (a.length - i) = i by omega, show b.length - (b.length - j) = j by omega]
end Go.Proofs.Ytkfgkefkmofdcaa.Man
