/- The length that the rows tell: by numbers. -/
import Derived.Test.YtkfgkefkmofdcaaBitsP
import Derived.Test.YtkfgkefkmofdcaaBitsU
namespace Go.Proofs.Ytkfgkefkmofdcaa.Man
open Go.RowKit Go.Proofs.YtkfgkefkmofdcaaW.PrintWords Go.Proofs.YtkfgkefkmofdcaaW.PrintLast Go.Proofs.YtkfgkefkmofdcaaW.PrintMore
open Go.Proofs.BitsMath

theorem rbit_sum (a b : List Int) (n : Nat) : ∀ j, j ≤ b.length → dsum (bt (rbit a b n)) j + hb a b n j = j
  | 0, _ => by rw [hb_left]; rfl
  | j + 1, h => by
    have ih := rbit_sum a b n j (by omega)
    have hr := hb_right a b n j (by omega)
    show dsum (bt (rbit a b n)) j + bt (rbit a b n) j + hb a b n (j + 1) = j + 1
    have e : bt (rbit a b n) j = if hb a b n (j + 1) = hb a b n j then 1 else 0 := by
      unfold bt rbit
      rw [decide_eq_true (show j < b.length by omega), Bool.true_and]
      by_cases h' : hb a b n (j + 1) = hb a b n j
      · rw [if_pos h', decide_eq_true h']; rfl
      · rw [if_neg h', decide_eq_false h']; rfl
    rw [e]
    split <;> omega
theorem hb_full (a b : List Int) : hb a b a.length b.length = lcs a b := by
  unfold hb
  rw [List.take_length, List.take_length, lcs_reverse]
theorem row_len (a b : List Int) (hb' : b.length ≤ 1048576) : wrap64 ((b.length : Int) - (dsum (bt (rbit a b a.length)) b.length : Nat)) = (lcs a b : Int) := by
  have h := rbit_sum a b a.length b.length (Nat.le_refl _)
  rw [hb_full] at h
  unfold wrap64; omega
theorem crochLen_n (k : Nat) (a b : List Int) (hg : rgood a b = true) (hk : wds b.length < k) : croch_Len.f k a b = some (lcs a b : Int) := by
  have hb := (rgood_at hg).1
  have hl := lens_n (PV.croch_Row.f k) k a b hb hk (fun p q hp hq => croch_n k b.length hb hk p q hp hq) a.length 0 (by omega) (by omega)
  rw [List.drop_zero] at hl
  unfold croch_Len.f
  rw [if_pos hg, ones_row k a b hb hk, Option.bind_some, hl, Option.bind_some, count_n k b.length hb hk _ (rbit_lt a b a.length), Option.bind_some, row_len a b hb]
theorem hyyroLen_n (k : Nat) (a b : List Int) (hg : rgood a b = true) (hk : wds b.length < k) : hyyro_Len.f k a b = some (lcs a b : Int) := by
  have hb := (rgood_at hg).1
  have hl := lens_n (PV.hyyro_Row.f k) k a b hb hk (fun p q hp hq => hyyro_n k b.length hb hk p q hp hq) a.length 0 (by omega) (by omega)
  rw [List.drop_zero] at hl
  unfold hyyro_Len.f
  rw [if_pos hg, ones_row k a b hb hk, Option.bind_some, hl, Option.bind_some, count_n k b.length hb hk _ (rbit_lt a b a.length), Option.bind_some, row_len a b hb]
theorem wfl_of (l : List Int) (h : ∀ n ∈ l, (Lit.int .i64 n).wf = true) : wfl l = true := by
  unfold wfl
  rw [List.all_eq_true]
  exact h
theorem rgood_of (a b : List Int) (ha : a.length ≤ 70) (hb : b.length ≤ 70) (h1 : ∀ n ∈ a, (Lit.int .i64 n).wf = true) (h2 : ∀ n ∈ b, (Lit.int .i64 n).wf = true) : rgood a b = true := by
  unfold rgood
  rw [wfl_of a h1, wfl_of b h2]
  simp; omega
theorem mul_len (n m : Nat) (hn : n ≤ 71) (hm : m ≤ 144) : n * m ≤ 10224 := Nat.mul_le_mul hn hm
end Go.Proofs.Ytkfgkefkmofdcaa.Man
