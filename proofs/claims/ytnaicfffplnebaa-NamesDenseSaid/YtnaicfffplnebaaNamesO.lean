/- The laws of names, in plain Lean: finding, numbering. -/
import Derived.Test.YtnaicfffplnebaaNamesM
import Derived.Test.YtnaicfffplnebaaPNx2
import Derived.Test.YtnaicfffplnebaaPNx3
namespace Go.Proofs.Ytnaicfffplnebaa.Man
open Go.Proofs.YtnaicfffplnebaaW.PrintWords Go.Proofs.YtnaicfffplnebaaW.PrintLast Go.Proofs.YtnaicfffplnebaaW.PrintMore

/-- Where a token stands. -/
def fnd (d : List (List Int)) (t : List Int) : Int × Bool :=
  match d.findIdx? (fun x => decide (byt x = byt t)) with
  | some i => ((i : Int), true)
  | none => (0, false)
theorem same_toList (x y : List Int) : ((strOfNums x).toList == (strOfNums y).toList) = decide (byt x = byt y) := by
  have h := same_f x y
  unfold PIds.tattingref1_Same.f at h
  injection h
theorem find_l0 {d : List (List Int)} (t : List Int) (hl : d.length ≤ 100) : ∀ (m i k : Nat), d.length - i = m → i ≤ d.length → m + 1 ≤ k → PN.tattingref1_Find.l0 k d t i = some (match (d.drop i).findIdx? (fun x => decide (byt x = byt t)) with | some j => (((i + j : Nat) : Int), true) | none => (0, false))
  | m, i, k, hm, hi, hk => by
    obtain ⟨k, rfl⟩ : ∃ k', k = k' + 1 := ⟨k - 1, by omega⟩
    simp only [PN.tattingref1_Find.l0]
    by_cases h1 : i < d.length
    · rw [if_pos (by omega), if_pos (by omega), rd_L1_get d i h1, List.drop_eq_getElem_cons h1, List.findIdx?_cons]
      simp only [PN.tattingref1_Same.f, Option.bind_some, same_toList]
      by_cases he : byt d[i] = byt t
      · simp [he]
      · simp only [he, decide_false, Bool.false_eq_true, if_false]
        rw [wrap64_in _ (by omega) (by omega), show (i : Int) + 1 = ((i + 1 : Nat) : Int) by omega, find_l0 t hl (m - 1) (i + 1) k (by omega) (by omega) (by omega)]
        cases (d.drop (i + 1)).findIdx? (fun x => decide (byt x = byt t)) with
        | none => rfl
        | some j => simp only [Option.map_some]; congr 3; omega
    · rw [if_neg (by omega), List.drop_eq_nil_of_le (by omega)]
      rfl
theorem find_f {d : List (List Int)} (t : List Int) (hl : d.length ≤ 100) (k : Nat) (hk : 101 ≤ k) : PN.tattingref1_Find.f k d t = some (fnd d t) := by
  unfold PN.tattingref1_Find.f fnd
  rw [show (0 : Int) = ((0 : Nat) : Int) from rfl, find_l0 t hl d.length 0 k (by omega) (by omega) (by omega)]
  simp only [List.drop_zero]
  cases d.findIdx? (fun x => decide (byt x = byt t)) with
  | none => rfl
  | some j => simp
/-- In rising tokens: where it stands by halving is where it stands. -/
theorem names_find_f {d : List (List Int)} (t : List Int) (hs : d.Pairwise ltT) (hl : d.length ≤ 100) : names_Find.f d t = some (fnd d t) := by
  unfold names_Find.f
  simp only []
  have hno : (d.drop (d.takeWhile fun x => decide (ltT x t)).length).any (fun x => decide (ltT x t)) = false := by
    rw [List.any_eq_false]
    intro x hx
    clear hl
    induction d with
    | nil => simp at hx
    | cons y d ih =>
      rw [List.takeWhile_cons] at hx
      rw [List.pairwise_cons] at hs
      by_cases hy : ltT y t
      · simp only [hy, decide_true, if_true, List.length_cons, List.drop_succ_cons] at hx
        exact ih hs.2 hx
      · simp only [hy, decide_false, Bool.false_eq_true, if_false, List.length_nil, List.drop_zero] at hx
        simp only [decide_eq_true_eq]
        intro hxt
        rcases List.mem_cons.1 hx with e | e
        · subst e; exact hy hxt
        · exact hy (ltT_trans (hs.1 x e) hxt)
  rw [if_neg (by
    rintro (h | h)
    · rw [hno] at h; cases h
    · exact h (by omega))]
  clear hno hl
  unfold fnd
  induction d with
  | nil => rfl
  | cons y d ih =>
    rw [List.takeWhile_cons, List.findIdx?_cons]
    rw [List.pairwise_cons] at hs
    by_cases hy : ltT y t
    · have hne : ¬ byt y = byt t := fun e => by
        have h2 := hy
        unfold ltT at h2
        rw [e, cmpB_self] at h2
        omega
      have ih' := ih hs.2
      simp only [hy, decide_true, if_true, List.length_cons, List.getElem?_cons_succ, hne, decide_false, Bool.false_eq_true, if_false]
      revert ih'
      generalize (d.takeWhile fun x => decide (ltT x t)).length = i
      cases d.findIdx? (fun x => decide (byt x = byt t)) with
      | none =>
        cases hd : d[i]? with
        | none => intro _; rfl
        | some x =>
          intro h
          by_cases hx : byt x = byt t
          · simp only [hx, if_true] at h
            injection h with h; injection h with _ h; cases h
          · simp [hx]
      | some j =>
        cases hd : d[i]? with
        | none => intro h; simp at h
        | some x =>
          intro h
          by_cases hx : byt x = byt t
          · simp only [hx, if_true] at h ⊢
            injection h with h; injection h with h _
            simp only [Option.map_some]
            congr 2
            omega
          · simp [hx] at h
    · simp only [hy, decide_false, Bool.false_eq_true, if_false, List.length_nil, List.getElem?_cons_zero]
      by_cases he : byt y = byt t
      · simp [he]
      · simp only [he, if_false, decide_false, Bool.false_eq_true]
        have hnone : d.findIdx? (fun x => decide (byt x = byt t)) = none := by
          rw [List.findIdx?_eq_none_iff]
          intro x hx
          have h1 := hs.1 x hx
          simp only [decide_eq_false_iff_not]
          intro e
          apply hy
          unfold ltT at h1 ⊢
          rw [← e]
          exact h1
        rw [hnone]
        rfl
end Go.Proofs.Ytnaicfffplnebaa.Man
