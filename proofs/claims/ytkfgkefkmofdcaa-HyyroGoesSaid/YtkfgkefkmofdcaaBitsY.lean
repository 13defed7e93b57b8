/- What HyyroGoes computes. -/
import Derived.Test.YtkfgkefkmofdcaaBitsRa
import Derived.Test.YtkfgkefkmofdcaaBitsVa
import Derived.Test.YtkfgkefkmofdcaaPLyK
namespace Go.Proofs.Ytkfgkefkmofdcaa.Man
open Go.RowKit Go.Proofs.YtkfgkefkmofdcaaW.PrintWords Go.Proofs.YtkfgkefkmofdcaaW.PrintLast Go.Proofs.YtkfgkefkmofdcaaW.PrintMore
open Go.Proofs.BitsMath

theorem awake20 : PL.tattinglaw20_awake.f 30000 = some true := by decide +kernel
theorem width5_n (n : Nat) (hn : n ≤ 1048576) : PL.tattingref5_Width.f (n : Int) = some (n : Int) := by
  unfold PL.tattingref5_Width.f
  rw [if_neg (by omega), if_neg (by omega)]
theorem bit_of (q : Nat → Bool) (r : Nat) (hr : r < 64) : (Go.bits .and .u64 (shr .u64 (word q) (r : Int)) 1 == 1) = q r := by
  have hb := testBit_wordB q 64 r
  rw [decide_eq_true hr, Bool.true_and, Nat.testBit_eq_decide_div_mod_eq] at hb
  have hlt := wordB_lt' q
  have hd : wordB q 64 / 2 ^ r < 18446744073709551616 := Nat.lt_of_le_of_lt (Nat.div_le_self _ _) hlt
  have e : shr .u64 (word q) (r : Int) = ((wordB q 64 / 2 ^ r : Nat) : Int) := by
    unfold shr word
    rw [Int.toNat_natCast, Nat.min_eq_left (show r ≤ IntKind.u64.bits by have : IntKind.u64.bits = 64 := rfl
                                                                         omega)]
    simp
  rw [e, show (1 : Int) = ((1 : Nat) : Int) by rfl, bandN _ _ hd (by omega), and1, ← hb]
  generalize wordB q 64 / 2 ^ r = x
  rw [Bool.eq_iff_iff, beq_iff_eq, decide_eq_true_iff]
  omega
theorem get_n (W : Nat) (hW : W ≤ 16384) (p : Nat → Bool) (j : Nat) (hj : j < 64 * W) : PL.tattingref5_Get.f (mkRow W p) (j : Int) = some (p j) := by
  have hjW : j / 64 < W := by omega
  unfold PL.tattingref5_Get.f
  rw [if_pos (by omega), tdiv_n j (by omega), mkRow_length, if_pos (by omega), if_pos (by omega), tmod_n j, if_pos (by omega), rd_mkRow _ _ _ hjW, bit_of _ _ (Nat.mod_lt _ (by decide))]
  rw [show 64 * (j / 64) + j % 64 = j by omega]
theorem count5_loop (m : Nat) (hm : m ≤ 1048576) (p : Nat → Bool) (d : Nat) : ∀ k j, m - j = d → d < k → j ≤ m → PL.tattingref5_Count.l0 k (mkRow (wds m) p) (m : Int) (dsum (bt p) j : Int) (j : Int) = some (dsum (bt p) m : Int) := by
  have hW : wds m ≤ 16384 := by unfold wds; omega
  have hl := wds_le m
  induction d with
  | zero =>
    intro k j hd hk hj
    obtain rfl : j = m := by omega
    obtain ⟨k, rfl⟩ : ∃ n, k = n + 1 := ⟨k - 1, by omega⟩
    simp only [PL.tattingref5_Count.l0]
    rw [width5_n _ hm, Option.bind_some, if_neg (by omega)]
  | succ d ih =>
    intro k j hd hk hj
    obtain ⟨k, rfl⟩ : ∃ n, k = n + 1 := ⟨k - 1, by omega⟩
    have h1 := dsum_le p j
    have ih' := ih k (j + 1) (by omega) (by omega) (by omega)
    have e : dsum (bt p) (j + 1) = dsum (bt p) j + bt p j := rfl
    simp only [PL.tattingref5_Count.l0]
    rw [width5_n _ hm, Option.bind_some, if_pos (by omega), get_n _ hW p j (by omega), Option.bind_some, w_succ j (by omega)]
    cases hb : p j with
    | true =>
      have eb : bt p j = 1 := by unfold bt; rw [hb]; rfl
      rw [if_pos rfl, w_succ _ (by omega), show dsum (bt p) j + 1 = dsum (bt p) (j + 1) by rw [e, eb]]
      exact ih'
    | false =>
      have eb : bt p j = 0 := by unfold bt; rw [hb]; rfl
      have e2 : dsum (bt p) j = dsum (bt p) (j + 1) := by rw [e, eb]; rfl
      rw [if_neg (by simp), e2]
      exact ih'
theorem count5_n (k m : Nat) (hm : m ≤ 1048576) (hk : m < k) (p : Nat → Bool) : PL.tattingref5_Count.f k (mkRow (wds m) p) (m : Int) = some (dsum (bt p) m : Int) :=
  count5_loop m hm p m k 0 (by omega) hk (by omega)
/-- The bits of a mask, of which the first j are laid. -/
def mbits (b : List Int) (x : Int) (j : Nat) : List Bool := (List.range b.length).map fun q => decide (q < j) && (b.getD q 0 == x)
theorem mbits_length (b : List Int) (x : Int) (j : Nat) : (mbits b x j).length = b.length := by simp [mbits]
theorem mbits_set (b : List Int) (x : Int) (j : Nat) (_hj : j < b.length) : (mbits b x j).set j (b.getD j 0 == x) = mbits b x (j + 1) := by
  apply List.ext_getElem?
  intro q
  by_cases hq : q < b.length
  · rw [List.getElem?_set, mbits_length]
    simp only [mbits, List.getElem?_map, List.getElem?_range hq, Option.map_some]
    by_cases e : j = q
    · subst e; simp [hq]
    · rw [if_neg e]
      have : decide (q < j + 1) = decide (q < j) := by congr 1; apply propext; omega
      rw [this]
  · rw [List.getElem?_eq_none (by simp [mbits]; omega), List.getElem?_eq_none (by simp [mbits]; omega)]
theorem mbits_zero (b : List Int) (x : Int) : List.replicate b.length false = mbits b x 0 := by
  apply List.ext_getElem <;> simp [mbits]
theorem mbits_at (b : List Int) (x : Int) (q : Nat) : (mbits b x b.length).getD q false = mb b x q := by
  unfold mb
  by_cases hq : q < b.length
  · rw [List.getD_eq_getElem?_getD, mbits, List.getElem?_map, List.getElem?_range hq]; rfl
  · rw [List.getD_eq_getElem?_getD, List.getElem?_eq_none (by rw [mbits_length]; omega), decide_eq_false hq]; rfl
theorem mask5_loop (b : List Int) (hb : b.length ≤ 1048576) (x : Int) (d : Nat) : ∀ k j, b.length - j = d → d + 2 * b.length + 2 < k → j ≤ b.length → PL.tattingref5_Mask.l0 k b x (mbits b x j) (j : Int) = some (mkRow (wds b.length) (mb b x)) := by
  induction d with
  | zero =>
    intro k j hd hk hj
    obtain rfl : j = b.length := by omega
    obtain ⟨k, rfl⟩ : ∃ n, k = n + 1 := ⟨k - 1, by omega⟩
    have hW : wds b.length ≤ 16384 := by unfold wds; omega
    simp only [PL.tattingref5_Mask.l0]
    rw [if_neg (by omega), words5_f b.length hb, Option.bind_some, laid_f k _ (wds b.length) hW (by rw [mbits_length]; exact wds_le _) (by rw [mbits_length]; omega), Option.bind_some]
    exact congrArg some (mkRow_congr fun q _ => mbits_at b x q)
  | succ d ih =>
    intro k j hd hk hj
    obtain ⟨k, rfl⟩ : ∃ n, k = n + 1 := ⟨k - 1, by omega⟩
    have ih' := ih k (j + 1) (by omega) (by omega) (by omega)
    simp only [PL.tattingref5_Mask.l0]
    rw [if_pos (by omega), if_pos (by omega), mbits_length, if_pos (by omega), Int.toNat_natCast, rd_n, mbits_set b x j (by omega), w_succ j (by omega)]
    exact ih'
theorem mask5_n (k : Nat) (b : List Int) (hb : b.length ≤ 1048576) (x : Int) (hk : 3 * b.length + 2 < k) : PL.tattingref5_Mask.f k b x = some (mkRow (wds b.length) (mb b x)) := by
  unfold PL.tattingref5_Mask.f
  rw [if_pos (by omega), if_pos (by omega), Int.toNat_natCast, mbits_zero b x]
  exact mask5_loop b hb x b.length k 0 (by omega) (by omega) (by omega)
theorem same_row (k W : Nat) (p : Nat → Bool) (hW : W ≤ 16384) (hk : W < k) : PL.tattingref5_Same.f k (mkRow W p) (mkRow W p) = some true :=
  same_f k _ (by rw [mkRow_length]; omega) (by rw [mkRow_length]; omega)
theorem goes_loop (a b : List Int) (ha : a.length ≤ 40) (hb : b.length ≤ 130) (hg : rgood a b = true) (d : Nat) : ∀ k j, a.length - j = d → d + 1000 < k → j ≤ a.length →
    PL.tattinglaw20_HyyroGoes.l0 k a b (brows a b (a.length + 1)) (j : Int) = some true := by
  have hW : wds b.length ≤ 4 := by unfold wds; omega
  induction d with
  | zero =>
    intro k j hd hk hj
    obtain rfl : j = a.length := by omega
    obtain ⟨k, rfl⟩ : ∃ n, k = n + 1 := ⟨k - 1, by omega⟩
    simp only [PL.tattinglaw20_HyyroGoes.l0]
    rw [if_neg (by omega), if_pos (by omega), brows_length, if_pos (by omega), rdL2'_n, brows_get a b _ _ (by omega), count5_n k b.length (by omega) (by omega), Option.bind_some, hyyroLen_n k a b hg (by omega), Option.bind_some, row_len a b (by omega), beq_self_eq_true]
  | succ d ih =>
    intro k j hd hk hj
    obtain ⟨k, rfl⟩ : ∃ n, k = n + 1 := ⟨k - 1, by omega⟩
    have ih' := ih k (j + 1) (by omega) (by omega) (by omega)
    simp only [PL.tattinglaw20_HyyroGoes.l0]
    rw [if_pos (by omega), w_succ j (by omega), brows_length, if_pos (by omega), if_pos (by omega), if_pos (by omega), if_pos (by omega), rd_n, mask5_n k b (by omega) _ (by omega), Option.bind_some, rdL2'_n, brows_get a b _ _ (by omega),
      hyyro_n k b.length (by omega) (by omega) _ _ (rbit_lt a b j) (mb_lt b _), Option.bind_some, rowb_at a b j (by omega), rdL2'_n, brows_get a b _ _ (by omega), same_row k _ _ (by omega) (by omega), Option.bind_some, if_pos rfl]
    exact ih'
theorem hb_take (a b : List Int) (c i j : Nat) (hi : i ≤ c) : hb (a.take c) b i j = hb a b i j := by
  unfold hb
  rw [List.take_take, Nat.min_eq_left hi]
theorem brows_take (a b : List Int) (c n : Nat) (hn : c + 1 ≤ n) : (brows a b n).take (c + 1) = brows (a.take c) b (c + 1) := by
  apply List.ext_getElem?
  intro i
  rw [List.getElem?_take]
  unfold brows
  by_cases hi : i < c + 1
  · rw [if_pos hi, List.getElem?_map, List.getElem?_map, List.getElem?_range hi, List.getElem?_range (by omega), Option.map_some, Option.map_some]
    refine congrArg some (mkRow_congr fun q _ => ?_)
    unfold rbit
    rw [hb_take a b c i _ (by omega), hb_take a b c i _ (by omega)]
  · rw [if_neg hi, List.getElem?_eq_none (by simp; omega)]
theorem cut_n (x : Int) (h0 : 0 ≤ x) (h1 : x < 256) (n : Nat) (hn : n ≤ 40) : ∃ c : Nat, c ≤ n ∧ Int.tmod (wrap64 x) (wrap64 ((n : Int) + 1)) = (c : Int) := by
  have e1 : wrap64 x = x := by unfold wrap64; omega
  have e2 : wrap64 ((n : Int) + 1) = (n : Int) + 1 := by unfold wrap64; omega
  rw [e1, e2, Int.tmod_eq_emod_of_nonneg h0]
  have p1 := Int.emod_nonneg x (show (n : Int) + 1 ≠ 0 by omega)
  have p2 := Int.emod_lt_of_pos x (show (0 : Int) < (n : Int) + 1 by omega)
  exact ⟨(x % ((n : Int) + 1)).toNat, by omega, by omega⟩
end Go.Proofs.Ytkfgkefkmofdcaa.Man
