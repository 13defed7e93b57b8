/- The law of names, in plain Lean: each number stands for a token. -/
import Derived.Test.YtnaicfffplnebaaNamesR
namespace Go.Proofs.Ytnaicfffplnebaa.Man
open Go.Proofs.YtnaicfffplnebaaW.PrintWords Go.Proofs.YtnaicfffplnebaaW.PrintLast Go.Proofs.YtnaicfffplnebaaW.PrintMore

/-- Marks for numbers. -/
def marks (x : List Bool) : List Int → List Bool
  | [] => x
  | v :: l => marks (x.set v.toNat true) l
theorem marks_length : ∀ (l : List Int) (x : List Bool), (marks x l).length = x.length
  | [], _ => rfl
  | v :: l, x => by rw [marks, marks_length l]; simp
theorem marks_keep : ∀ (l : List Int) (x : List Bool) (i : Nat), x[i]? = some true → (marks x l)[i]? = some true
  | [], _, _, h => h
  | v :: l, x, i, h => by
    rw [marks]
    refine marks_keep l _ i ?_
    rw [List.getElem?_set]
    by_cases hv : v.toNat = i
    · rw [if_pos hv, if_pos (by rw [hv]; exact (List.getElem?_eq_some_iff.1 h).1)]
    · rw [if_neg hv]; exact h
theorem marks_hit : ∀ (l : List Int) (x : List Bool) (i : Nat), (i : Int) ∈ l → i < x.length → (marks x l)[i]? = some true
  | [], _, _, h, _ => by simp at h
  | v :: l, x, i, h, hi => by
    rw [marks]
    rcases List.mem_cons.1 h with e | e
    · refine marks_keep l _ i ?_
      rw [← e, Int.toNat_natCast, List.getElem?_set_self (by omega)]
    · exact marks_hit l _ i e (by simpa using hi)
theorem dense_l1 (n : Nat) (hn : n ≤ 100) (x : List Bool) (hx : x.length = n) (hall : ∀ i, i < n → x[i]? = some true) : ∀ (m i k : Nat), n - i = m → i ≤ n → m + 1 ≤ k → PN.tattinglaw2_NamesDense.l1 k n x i = some true
  | m, i, k, hm, hi, hk => by
    obtain ⟨k, rfl⟩ : ∃ k', k = k' + 1 := ⟨k - 1, by omega⟩
    simp only [PN.tattinglaw2_NamesDense.l1]
    by_cases h1 : i < n
    · rw [if_pos (by omega), if_pos (by omega), if_pos (by omega), if_pos (by unfold rdOf; rw [Int.toNat_natCast, List.getD_eq_getElem?_getD, hall i h1]; rfl), wrap64_in _ (by omega) (by omega), show (i : Int) + 1 = ((i + 1 : Nat) : Int) by omega]
      exact dense_l1 n hn x hx hall (m - 1) (i + 1) k (by omega) (by omega) (by omega)
    · rw [if_neg (by omega)]
theorem dense_l0 (n : Nat) (hn : n ≤ 100) (l : List Int) (hl : l.length ≤ 100) (hr : ∀ v ∈ l, 0 ≤ v ∧ v < n) : ∀ (m i k : Nat) (x : List Bool), l.length - i = m → i ≤ l.length → m + 1 ≤ k → x.length = n →
    ∃ k', k' + m + 1 = k ∧ PN.tattinglaw2_NamesDense.l0 k n x l i = PN.tattinglaw2_NamesDense.l1 k' n (marks x (l.drop i)) 0
  | m, i, k, x, hm, hi, hk, hx => by
    obtain ⟨k, rfl⟩ : ∃ k', k = k' + 1 := ⟨k - 1, by omega⟩
    simp only [PN.tattinglaw2_NamesDense.l0]
    by_cases h1 : i < l.length
    · have hv := hr _ (List.getElem_mem h1)
      rw [if_pos (by omega), if_pos (by omega), rd_get l i h1, if_neg (by omega), if_neg (by omega), if_pos (by omega), if_pos (by omega), wrap64_in _ (by omega) (by omega), show (i : Int) + 1 = ((i + 1 : Nat) : Int) by omega, List.drop_eq_getElem_cons h1, marks]
      obtain ⟨k', hk', e⟩ := dense_l0 n hn l hl hr (m - 1) (i + 1) k (x.set l[i].toNat true) (by omega) (by omega) (by omega) (by simpa using hx)
      exact ⟨k', by omega, e⟩
    · rw [if_neg (by omega), List.drop_eq_nil_of_le (by omega)]
      exact ⟨k, by omega, rfl⟩
theorem fnd_self {d : List (List Int)} (hs : d.Pairwise ltT) (i : Nat) (hi : i < d.length) : (fnd d d[i]).1 = (i : Int) := by
  obtain ⟨j, hj, ej, bj⟩ := fnd_spec (List.getElem_mem hi)
  rw [ej]
  rcases Nat.lt_trichotomy i j with h | h | h
  · have h3 := (List.pairwise_iff_getElem.1 hs) i j hi hj h
    unfold ltT at h3
    rw [bj, cmpB_self] at h3
    omega
  · rw [h]
  · have h3 := (List.pairwise_iff_getElem.1 hs) j i hj hi h
    unfold ltT at h3
    rw [bj, cmpB_self] at h3
    omega
theorem namesDense_f (a b : List (List Int)) (hwa : ∀ x ∈ a, wfB x = true) (hwb : ∀ x ∈ b, wfB x = true) : PN.tattinglaw2_NamesDense.f 3000 a b = some true := by
  unfold PN.tattinglaw2_NamesDense.f
  obtain ⟨p, hp, hps⟩ := few_f a 3000 (by omega)
  obtain ⟨q, hq, hqs⟩ := few_f b 3000 (by omega)
  simp only [tattinglaw2_awake.f, Option.bind_some, if_true]
  rw [hp]
  simp only [Option.bind_some]
  cases p with
  | false => simp [PN.tattinglaw2_NamesDense.j0]
  | true =>
    obtain ⟨h1, h2⟩ := hps rfl
    rw [if_pos rfl, hq]
    simp only [Option.bind_some]
    cases q with
    | false => simp [PN.tattinglaw2_NamesDense.j0]
    | true =>
      obtain ⟨h3, h4⟩ := hqs rfl
      have hspec := sortU_spec (a ++ b) (wf_both hwa hwb)
      have hlen := length_sortU (a ++ b)
      have hab : (a ++ b).length = a.length + b.length := List.length_append
      have ia := ids_all (d := sortU (a ++ b)) (l := a) (fun x hx => (hspec.2 x).2 (List.mem_append_left _ hx))
      have ib := ids_all (d := sortU (a ++ b)) (l := b) (fun x hx => (hspec.2 x).2 (List.mem_append_right _ hx))
      simp only [PN.tattinglaw2_NamesDense.j0, Bool.not_true, Bool.false_eq_true, if_false]
      rw [names_two_f hwa hwb h1 h2 h3 h4 2999 (by omega)]
      simp only [Option.bind_some, twoU, ids, ia, ib, List.length_map, bne_self_eq_false]
      generalize hd : sortU (a ++ b) = d at *
      rw [if_neg (by omega), if_neg (by omega), if_pos trivial]
      simp only [PN.tattinglaw2_NamesDense.j1, Bool.false_eq_true, if_false, Option.bind_some, List.nil_append, List.length_nil, List.length_map, Int.toNat_natCast]
      rw [if_pos (by omega), if_pos (by omega), if_pos (by omega), if_pos (by omega), ← List.map_append]
      obtain ⟨k', hk', e⟩ := dense_l0 d.length (by omega) ((a ++ b).map fun t => (fnd d t).1) (by simp; omega) (fun v hv => by
        obtain ⟨t, ht, rfl⟩ := List.mem_map.1 hv
        obtain ⟨i, hi, ei, _⟩ := fnd_spec ((hspec.2 t).2 ht)
        rw [ei]; omega) (a ++ b).length 0 2998 (List.replicate d.length false) (by simp) (by omega) (by omega) (by simp)
      rw [show (0 : Int) = ((0 : Nat) : Int) from rfl, e, List.drop_zero]
      refine dense_l1 d.length (by omega) _ (by rw [marks_length]; simp) (fun i hi => ?_) d.length 0 k' (by omega) (by omega) (by omega)
      refine marks_hit _ _ i ?_ (by simpa using hi)
      exact List.mem_map.2 ⟨d[i], (hspec.2 _).1 (List.getElem_mem hi), fnd_self hspec.1 i hi⟩
end Go.Proofs.Ytnaicfffplnebaa.Man
