/- The laws of names, in plain Lean: numbers stand as tokens do; each number stands for a token. -/
import Derived.Test.YtnaicfffplnebaaNamesQ
import Derived.Test.YtnaicfffplnebaaPNx4
namespace Go.Proofs.Ytnaicfffplnebaa.Man
open Go.Proofs.YtnaicfffplnebaaW.PrintWords Go.Proofs.YtnaicfffplnebaaW.PrintLast Go.Proofs.YtnaicfffplnebaaW.PrintMore

theorem fnd_spec {d : List (List Int)} {t : List Int} (h : t ∈ d) : ∃ (i : Nat) (hi : i < d.length), (fnd d t).1 = (i : Int) ∧ byt d[i] = byt t := by
  unfold fnd
  cases hi : d.findIdx? (fun x => decide (byt x = byt t)) with
  | some i =>
    rw [List.findIdx?_eq_some_iff_getElem] at hi
    obtain ⟨h1, h2, _⟩ := hi
    exact ⟨i, h1, rfl, by simpa using h2⟩
  | none =>
    rw [List.findIdx?_eq_none_iff] at hi
    have := hi t h
    simp at this
theorem fnd_order {d : List (List Int)} (hs : d.Pairwise ltT) {s t : List Int} (h1 : s ∈ d) (h2 : t ∈ d) : ((fnd d s).1 = (fnd d t).1 ↔ byt s = byt t) ∧ ((fnd d s).1 < (fnd d t).1 ↔ ltT s t) := by
  obtain ⟨i, hi, ei, bi⟩ := fnd_spec h1
  obtain ⟨j, hj, ej, bj⟩ := fnd_spec h2
  have hlt : ∀ a b (ha : a < d.length) (hb : b < d.length), a < b → ltT d[a] d[b] := fun a b ha hb hab => (List.pairwise_iff_getElem.1 hs) a b ha hb hab
  have cong : ∀ {x y x' y' : List Int}, byt x = byt x' → byt y = byt y' → (ltT x y ↔ ltT x' y') := by
    intro x y x' y' e1 e2
    unfold ltT
    rw [e1, e2]
  rw [ei, ej]
  rcases Nat.lt_trichotomy i j with h | h | h
  · have h3 : ltT s t := (cong bi bj).1 (hlt i j hi hj h)
    refine ⟨⟨fun e => by omega, fun e => ?_⟩, ⟨fun _ => h3, fun _ => by omega⟩⟩
    unfold ltT at h3
    rw [e, cmpB_self] at h3
    omega
  · subst h
    have e : byt s = byt t := bi.symm.trans bj
    refine ⟨⟨fun _ => e, fun _ => rfl⟩, ⟨fun h => by omega, fun h3 => ?_⟩⟩
    unfold ltT at h3
    rw [e, cmpB_self] at h3
    omega
  · have h3 : ltT t s := (cong bj bi).1 (hlt j i hj hi h)
    refine ⟨⟨fun e => by omega, fun e => ?_⟩, ⟨fun e => by omega, fun h4 => absurd (ltT_trans h3 h4) (ltT_irrefl t)⟩⟩
    unfold ltT at h3
    rw [e, cmpB_self] at h3
    omega
theorem below_f' {x y : List Int} (hx : wfB x = true) (hy : wfB y = true) (hl : x.length ≤ 40) (k : Nat) (hk : 82 ≤ k) : tattingref1_Below.f k x y = some (decide (ltT x y)) :=
  below_l0 hx hy (by omega) x.length 0 k (by omega) (by omega) (by omega) (by omega)
section
variable {d a b : List (List Int)} (hs : d.Pairwise ltT) (ha : ∀ x ∈ a, x ∈ d) (hb : ∀ x ∈ b, x ∈ d) (hwa : ∀ x ∈ a, wfB x = true) (hwb : ∀ x ∈ b, wfB x = true) (h1 : a.length ≤ 40) (h2 : ∀ x ∈ a, x.length ≤ 40) (h3 : b.length ≤ 40)
include hs ha hb hwa hwb h1 h2 h3
theorem order_l1 (i : Nat) (hi : i < a.length) : ∀ (m j k : Nat), b.length - j = m → j ≤ b.length → m + 101 ≤ k →
    ∃ k', k' + m + 1 = k ∧ PN.tattinglaw2_NamesOrder.l1 k a b (a.map fun t => (fnd d t).1) (b.map fun t => (fnd d t).1) i j = PN.tattinglaw2_NamesOrder.l0 k' a b (a.map fun t => (fnd d t).1) (b.map fun t => (fnd d t).1) ((i + 1 : Nat) : Int)
  | m, j, k, hm, hj, hk => by
    obtain ⟨k, rfl⟩ : ∃ k', k = k' + 1 := ⟨k - 1, by omega⟩
    simp only [PN.tattinglaw2_NamesOrder.l1, List.length_map]
    by_cases hjl : j < b.length
    · rw [if_pos (by omega), if_pos (by omega), if_pos (by omega), if_pos (by omega), if_pos (by omega), if_pos (by omega)]
      rw [rd_L1_get a i hi, rd_L1_get b j hjl, rd_get _ i (by simpa using hi), rd_get _ j (by simpa using hjl)]
      have ho := fnd_order hs (ha _ (List.getElem_mem hi)) (hb _ (List.getElem_mem hjl))
      simp only [PN.tattingref1_Same.f, Option.bind_some, same_toList, List.getElem_map]
      rw [below_f' (hwa _ (List.getElem_mem hi)) (hwb _ (List.getElem_mem hjl)) (h2 _ (List.getElem_mem hi)) k (by omega)]
      have e1 : ((fnd d a[i]).1 == (fnd d b[j]).1) = decide (byt a[i] = byt b[j]) := by
        rw [Bool.eq_iff_iff]; simp [ho.1]
      have e2 : decide ((fnd d a[i]).1 < (fnd d b[j]).1) = decide (ltT a[i] b[j]) := by
        rw [decide_eq_decide]; exact ho.2
      rw [e1, e2]
      simp only [bne_self_eq_false, Bool.false_eq_true, if_false, Option.bind_some]
      rw [wrap64_in _ (by omega) (by omega), show (j : Int) + 1 = ((j + 1 : Nat) : Int) by omega]
      obtain ⟨k', hk', e⟩ := order_l1 i hi (m - 1) (j + 1) k (by omega) (by omega) (by omega)
      exact ⟨k', by omega, e⟩
    · rw [if_neg (by omega), wrap64_in _ (by omega) (by omega)]
      exact ⟨k, by omega, by rw [show (i : Int) + 1 = ((i + 1 : Nat) : Int) by omega]⟩
theorem order_l0 : ∀ (m i k : Nat), a.length - i = m → i ≤ a.length → m * 50 + 150 ≤ k →
    PN.tattinglaw2_NamesOrder.l0 k a b (a.map fun t => (fnd d t).1) (b.map fun t => (fnd d t).1) i = some true
  | m, i, k, hm, hi, hk => by
    obtain ⟨k, rfl⟩ : ∃ k', k = k' + 1 := ⟨k - 1, by omega⟩
    simp only [PN.tattinglaw2_NamesOrder.l0]
    by_cases hil : i < a.length
    · rw [if_pos (by omega)]
      obtain ⟨k', hk', e⟩ := order_l1 hs ha hb hwa hwb h1 h2 h3 i hil b.length 0 k (by omega) (by omega) (by omega)
      rw [show (0 : Int) = ((0 : Nat) : Int) from rfl, e]
      exact order_l0 (m - 1) (i + 1) k' (by omega) (by omega) (by omega)
    · rw [if_neg (by omega)]
termination_by m => m
end
theorem namesOrder_f (a b : List (List Int)) (hwa : ∀ x ∈ a, wfB x = true) (hwb : ∀ x ∈ b, wfB x = true) : PN.tattinglaw2_NamesOrder.f 3000 a b = some true := by
  unfold PN.tattinglaw2_NamesOrder.f
  obtain ⟨p, hp, hps⟩ := few_f a 3000 (by omega)
  obtain ⟨q, hq, hqs⟩ := few_f b 3000 (by omega)
  simp only [tattinglaw2_awake.f, Option.bind_some, if_true]
  rw [hp]
  simp only [Option.bind_some]
  cases p with
  | false => simp [PN.tattinglaw2_NamesOrder.j0]
  | true =>
    obtain ⟨h1, h2⟩ := hps rfl
    rw [if_pos rfl, hq]
    simp only [Option.bind_some]
    cases q with
    | false => simp [PN.tattinglaw2_NamesOrder.j0]
    | true =>
      obtain ⟨h3, h4⟩ := hqs rfl
      have hspec := sortU_spec (a ++ b) (wf_both hwa hwb)
      have ia := ids_all (d := sortU (a ++ b)) (l := a) (fun x hx => (hspec.2 x).2 (List.mem_append_left _ hx))
      have ib := ids_all (d := sortU (a ++ b)) (l := b) (fun x hx => (hspec.2 x).2 (List.mem_append_right _ hx))
      simp only [PN.tattinglaw2_NamesOrder.j0, Bool.not_true, Bool.false_eq_true, if_false]
      rw [names_two_f hwa hwb h1 h2 h3 h4 2999 (by omega)]
      simp only [Option.bind_some, twoU, ids, ia, ib, List.length_map, if_true, bne_self_eq_false, PN.tattinglaw2_NamesOrder.j1, Bool.false_eq_true, if_false]
      exact order_l0 hspec.1 (fun x hx => (hspec.2 x).2 (List.mem_append_left _ hx)) (fun x hx => (hspec.2 x).2 (List.mem_append_right _ hx)) hwa hwb h1 h2 h3 a.length 0 2998 (by omega) (by omega) (by omega)
end Go.Proofs.Ytnaicfffplnebaa.Man
