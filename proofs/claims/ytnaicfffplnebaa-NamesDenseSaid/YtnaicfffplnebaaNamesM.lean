/- The laws of names, in plain Lean: few, the same tokens, sorting. -/
import Derived.Test.YtnaicfffplnebaaPNx4
namespace Go.Proofs.Ytnaicfffplnebaa.Man
open Go.Proofs.YtnaicfffplnebaaW.PrintWords Go.Proofs.YtnaicfffplnebaaW.PrintLast Go.Proofs.YtnaicfffplnebaaW.PrintMore

theorem rd_L1_get (l : List (List Int)) (i : Nat) (hi : i < l.length) : PN.rd_L1 l (i : Int) = l[i] := by
  unfold PN.rd_L1
  rw [Int.toNat_natCast, List.getD_eq_getElem?_getD, List.getElem?_eq_getElem hi]; rfl
theorem few_l0 {l : List (List Int)} (hl : l.length ≤ 40) : ∀ (m i k : Nat), l.length - i = m → i ≤ l.length → m + 1 ≤ k → ∃ b, PN.tattinglaw2_few.l0 k l i = some b ∧ (b = true → ∀ j (h : j < l.length), i ≤ j → l[j].length ≤ 40)
  | m, i, k, hm, hi, hk => by
    obtain ⟨k, rfl⟩ : ∃ k', k = k' + 1 := ⟨k - 1, by omega⟩
    simp only [PN.tattinglaw2_few.l0]
    by_cases h1 : i < l.length
    · rw [if_pos (by omega), if_pos (by omega), rd_L1_get l i h1]
      by_cases h2 : ((l[i].length : Nat) : Int) > 40
      · rw [if_pos h2]
        exact ⟨false, rfl, fun h => by cases h⟩
      · rw [if_neg h2, wrap64_in _ (by omega) (by omega), show (i : Int) + 1 = ((i + 1 : Nat) : Int) by omega]
        obtain ⟨b, hb, hs⟩ := few_l0 hl (m - 1) (i + 1) k (by omega) (by omega) (by omega)
        refine ⟨b, hb, fun h j hj hij => ?_⟩
        rcases Nat.lt_or_ge i j with h3 | h3
        · exact hs h j hj h3
        · have : j = i := by omega
          subst this
          omega
    · rw [if_neg (by omega)]
      exact ⟨true, rfl, fun _ j hj hij => by omega⟩
theorem few_f (l : List (List Int)) (k : Nat) (hk : 41 ≤ k) : ∃ b, PN.tattinglaw2_few.f k l = some b ∧ (b = true → l.length ≤ 40 ∧ ∀ x ∈ l, x.length ≤ 40) := by
  unfold PN.tattinglaw2_few.f
  by_cases h : (l.length : Int) > 40
  · rw [if_pos h]; exact ⟨false, rfl, fun h => by cases h⟩
  · rw [if_neg h]
    obtain ⟨b, hb, hs⟩ := few_l0 (l := l) (by omega) l.length 0 k (by omega) (by omega) (by omega)
    refine ⟨b, hb, fun h' => ⟨by omega, fun x hx => ?_⟩⟩
    obtain ⟨j, hj, rfl⟩ := List.getElem_of_mem hx
    exact hs h' j hj (Nat.zero_le _)
theorem sameTokens_l0 {l : List (List Int)} (hl : l.length ≤ 100) : ∀ (m i k : Nat), l.length - i = m → i ≤ l.length → m + 1 ≤ k → PN.tattingref1_SameTokens.l0 k l l i = some true
  | m, i, k, hm, hi, hk => by
    obtain ⟨k, rfl⟩ : ∃ k', k = k' + 1 := ⟨k - 1, by omega⟩
    simp only [PN.tattingref1_SameTokens.l0]
    by_cases h1 : i < l.length
    · rw [if_pos (by omega), if_pos (by omega), if_pos (by omega), if_pos trivial, wrap64_in _ (by omega) (by omega), show (i : Int) + 1 = ((i + 1 : Nat) : Int) by omega]
      exact sameTokens_l0 hl (m - 1) (i + 1) k (by omega) (by omega) (by omega)
    · rw [if_neg (by omega)]
theorem sameTokens_f {l : List (List Int)} (hl : l.length ≤ 100) (k : Nat) (hk : 101 ≤ k) : PN.tattingref1_SameTokens.f k l l = some true := by
  unfold PN.tattingref1_SameTokens.f
  rw [if_pos rfl]
  exact sameTokens_l0 hl l.length 0 k (by omega) (by omega) (by omega)
theorem sameInts_l0 {l : List Int} (hl : l.length ≤ 100) : ∀ (m i k : Nat), l.length - i = m → i ≤ l.length → m + 1 ≤ k → PN.tattingref1_SameInts.l0 k l l i = some true
  | m, i, k, hm, hi, hk => by
    obtain ⟨k, rfl⟩ : ∃ k', k = k' + 1 := ⟨k - 1, by omega⟩
    simp only [PN.tattingref1_SameInts.l0]
    by_cases h1 : i < l.length
    · rw [if_pos (by omega), if_pos (by omega), if_pos (by omega), if_pos trivial, wrap64_in _ (by omega) (by omega), show (i : Int) + 1 = ((i + 1 : Nat) : Int) by omega]
      exact sameInts_l0 hl (m - 1) (i + 1) k (by omega) (by omega) (by omega)
    · rw [if_neg (by omega)]
theorem sameInts_f {l : List Int} (hl : l.length ≤ 100) (k : Nat) (hk : 101 ≤ k) : PN.tattingref1_SameInts.f k l l = some true := by
  unfold PN.tattingref1_SameInts.f
  rw [if_pos rfl]
  exact sameInts_l0 hl l.length 0 k (by omega) (by omega) (by omega)
theorem length_insU (x : List Int) (l : List (List Int)) : (insU x l).length ≤ l.length + 1 := by
  induction l with
  | nil => simp [insU]
  | cons y l ih =>
    simp only [insU]
    split
    · simp; omega
    · split <;> simp
theorem length_sortU (l : List (List Int)) : (sortU l).length ≤ l.length := by
  have key : ∀ (l d : List (List Int)), (l.foldl (fun d x => insU x d) d).length ≤ d.length + l.length := by
    intro l
    induction l with
    | nil => intro d; simp
    | cons x l ih =>
      intro d
      have h1 := ih (insU x d)
      have h2 := length_insU x d
      simp only [List.foldl_cons, List.length_cons]
      omega
  have := key l []
  simpa [sortU] using this
theorem all_few {l : List (List Int)} (hw : ∀ x ∈ l, wfB x = true) (h : ∀ x ∈ l, x.length ≤ 40) : (l.all fun x => wfB x && decide (x.length ≤ 140737488355328)) = true := by
  rw [List.all_eq_true]
  intro x hx
  have := h x hx
  rw [hw x hx]
  simp; omega
theorem names_Sort_f {l : List (List Int)} (hw : ∀ x ∈ l, wfB x = true) (hl : l.length ≤ 100) (h : ∀ x ∈ l, x.length ≤ 40) : names_Sort.f l = some (sortU l) := by
  unfold names_Sort.f
  rw [if_pos ⟨by omega, all_few hw h⟩]
theorem ref_Sort_f {l : List (List Int)} (hw : ∀ x ∈ l, wfB x = true) (hl : l.length ≤ 100) (h : ∀ x ∈ l, x.length ≤ 40) : tattingref1_Sort.f l = some (sortU l) := by
  unfold tattingref1_Sort.f
  rw [if_pos ⟨by omega, all_few hw h⟩]
theorem namesSorts_f (l : List (List Int)) (hw : ∀ x ∈ l, wfB x = true) : PN.tattinglaw2_NamesSorts.f 200 l = some true := by
  unfold PN.tattinglaw2_NamesSorts.f
  obtain ⟨b, hb, hs⟩ := few_f l 200 (by omega)
  simp only [tattinglaw2_awake.f, Option.bind_some, if_true]
  rw [hb]
  simp only [Option.bind_some]
  cases b with
  | false => rfl
  | true =>
    obtain ⟨h1, h2⟩ := hs rfl
    rw [if_pos rfl, names_Sort_f hw (by omega) h2, ref_Sort_f hw (by omega) h2]
    simp only [Option.bind_some]
    rw [sameTokens_f (by have := length_sortU l; omega) 200 (by omega)]
    rfl
end Go.Proofs.Ytnaicfffplnebaa.Man
