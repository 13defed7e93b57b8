/- The laws of names, in plain Lean: two lists of tokens. -/
import Derived.Test.YtnaicfffplnebaaNamesP
namespace Go.Proofs.Ytnaicfffplnebaa.Man
open Go.Proofs.YtnaicfffplnebaaW.PrintWords Go.Proofs.YtnaicfffplnebaaW.PrintLast Go.Proofs.YtnaicfffplnebaaW.PrintMore

/-- What both answer. -/
def twoU (a b : List (List Int)) : List Int × List Int × Int := ((ids (sortU (a ++ b)) a).1, (ids (sortU (a ++ b)) b).1, ((sortU (a ++ b)).length : Int))
section
variable {a b : List (List Int)} (hwa : ∀ x ∈ a, wfB x = true) (hwb : ∀ x ∈ b, wfB x = true) (h1 : a.length ≤ 40) (h2 : ∀ x ∈ a, x.length ≤ 40) (h3 : b.length ≤ 40) (h4 : ∀ x ∈ b, x.length ≤ 40)
include hwa hwb
theorem wf_both : ∀ x ∈ a ++ b, wfB x = true := fun x hx => (List.mem_append.1 hx).elim (hwa x) (hwb x)
include h1 h2 h3 h4
omit hwa hwb h1 h3 in
theorem few_both : ∀ x ∈ a ++ b, x.length ≤ 40 := fun x hx => (List.mem_append.1 hx).elim (h2 x) (h4 x)
theorem names_two_f (k : Nat) (hk : 202 ≤ k) : names_Two.f k a b = some (twoU a b) := by
  unfold names_Two.f
  have hab : (a ++ b).length = a.length + b.length := List.length_append
  have hlen := length_sortU (a ++ b)
  have hs := sortU_spec (a ++ b) (wf_both hwa hwb)
  rw [if_pos (by omega), names_Sort_f (wf_both hwa hwb) (by omega) (few_both h2 h4)]
  simp only [Option.bind_some]
  rw [names_ids_f hs.1 (by omega) (by omega) k (by omega), names_ids_f hs.1 (by omega) (by omega) k (by omega)]
  rfl
theorem ref_two_f (k : Nat) (hk : 202 ≤ k) : PN.tattingref1_Two.f k a b = some (twoU a b) := by
  unfold PN.tattingref1_Two.f
  have hab : (a ++ b).length = a.length + b.length := List.length_append
  have hlen := length_sortU (a ++ b)
  simp only [Option.bind_some, List.nil_append, List.length_nil]
  rw [if_pos (by omega), if_pos (by omega), ref_Sort_f (wf_both hwa hwb) (by omega) (few_both h2 h4)]
  simp only [Option.bind_some]
  rw [ref_ids_f (by omega) (by omega) k (by omega), ref_ids_f (by omega) (by omega) k (by omega)]
  rfl
end
theorem namesTwo_f (a b : List (List Int)) (hwa : ∀ x ∈ a, wfB x = true) (hwb : ∀ x ∈ b, wfB x = true) : PN.tattinglaw2_NamesTwo.f 400 a b = some true := by
  unfold PN.tattinglaw2_NamesTwo.f
  obtain ⟨p, hp, hps⟩ := few_f a 400 (by omega)
  obtain ⟨q, hq, hqs⟩ := few_f b 400 (by omega)
  simp only [tattinglaw2_awake.f, Option.bind_some, if_true]
  rw [hp]
  simp only [Option.bind_some]
  cases p with
  | false => simp [PN.tattinglaw2_NamesTwo.j0]
  | true =>
    obtain ⟨h1, h2⟩ := hps rfl
    rw [if_pos rfl, hq]
    simp only [Option.bind_some]
    cases q with
    | false => simp [PN.tattinglaw2_NamesTwo.j0]
    | true =>
      obtain ⟨h3, h4⟩ := hqs rfl
      simp only [PN.tattinglaw2_NamesTwo.j0, Bool.not_true, Bool.false_eq_true, if_false]
      rw [names_two_f hwa hwb h1 h2 h3 h4 399 (by omega), ref_two_f hwa hwb h1 h2 h3 h4 399 (by omega)]
      simp only [Option.bind_some, if_true]
      rw [sameInts_f (by have := ids_length (sortU (a ++ b)) a; simp only [twoU]; omega) 399 (by omega)]
      simp only [Option.bind_some, if_true]
      rw [sameInts_f (by have := ids_length (sortU (a ++ b)) b; simp only [twoU]; omega) 399 (by omega)]
      rfl
end Go.Proofs.Ytnaicfffplnebaa.Man
