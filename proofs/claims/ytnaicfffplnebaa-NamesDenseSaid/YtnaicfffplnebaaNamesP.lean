/- The laws of names, in plain Lean: numbers for tokens. -/
import Derived.Test.YtnaicfffplnebaaNamesO
namespace Go.Proofs.Ytnaicfffplnebaa.Man
open Go.Proofs.YtnaicfffplnebaaW.PrintWords Go.Proofs.YtnaicfffplnebaaW.PrintLast Go.Proofs.YtnaicfffplnebaaW.PrintMore

/-- The numbers of tokens, if all are there. -/
def idsM (d : List (List Int)) : List (List Int) → Option (List Int)
  | [] => some []
  | t :: l => if (fnd d t).2 = true then (idsM d l).map ((fnd d t).1 :: ·) else none
def ids (d l : List (List Int)) : List Int × Bool :=
  match idsM d l with
  | some r => (r, true)
  | none => ([], false)
theorem idsM_length {d : List (List Int)} : ∀ {l : List (List Int)} {r : List Int}, idsM d l = some r → r.length = l.length
  | [], r, h => by injection h with h; rw [← h]; rfl
  | t :: l, r, h => by
    simp only [idsM] at h
    split at h
    · obtain ⟨r', hr, rfl⟩ := Option.map_eq_some_iff.1 h
      simp [idsM_length hr]
    · cases h
theorem pids_rd (l : List (List Int)) (i : Nat) (hi : i < l.length) : PIds.rd_L1 l (i : Int) = l[i] := by
  unfold PIds.rd_L1
  rw [Int.toNat_natCast, List.getD_eq_getElem?_getD, List.getElem?_eq_getElem hi]; rfl
theorem names_ids_l0 {d : List (List Int)} (hs : d.Pairwise ltT) (hd : d.length ≤ 100) {l : List (List Int)} (hl : l.length ≤ 100) : ∀ (m i k : Nat) (acc : List Int), l.length - i = m → i ≤ l.length → m + 1 ≤ k → acc.length = l.length →
    PIds.names_Ids.l0 k d acc l l.length i = some (match idsM d (l.drop i) with | some r => (acc.take i ++ r, true) | none => ([], false))
  | m, i, k, acc, hm, hi, hk, ha => by
    obtain ⟨k, rfl⟩ : ∃ k', k = k' + 1 := ⟨k - 1, by omega⟩
    simp only [PIds.names_Ids.l0]
    by_cases h1 : i < l.length
    · rw [if_pos (by omega), if_pos (by omega), if_pos (by omega), pids_rd l i h1, names_find_f _ hs hd, List.drop_eq_getElem_cons h1]
      simp only [Option.bind_some, idsM]
      by_cases hf : (fnd d l[i]).2 = true
      · rw [if_pos hf, if_pos (by omega), wrap64_in _ (by omega) (by omega), show (i : Int) + 1 = ((i + 1 : Nat) : Int) by omega, Int.toNat_natCast]
        rw [names_ids_l0 hs hd hl (m - 1) (i + 1) k (acc.set i (fnd d l[i]).1) (by omega) (by omega) (by omega) (by simpa using ha)]
        simp only [hf, if_true]
        cases idsM d (l.drop (i + 1)) with
        | none => rfl
        | some r =>
          simp only [Option.map_some]
          congr 2
          rw [List.take_succ_eq_append_getElem (by simp; omega)]
          simp [List.take_set_of_le]
      · simp only [hf]
        rfl
    · rw [if_neg (by omega), List.drop_eq_nil_of_le (by omega)]
      simp only [idsM, List.append_nil]
      rw [List.take_of_length_le (by omega)]
theorem names_ids_f {d l : List (List Int)} (hs : d.Pairwise ltT) (hd : d.length ≤ 100) (hl : l.length ≤ 100) (k : Nat) (hk : 101 ≤ k) : PIds.names_Ids.f k d l = some (ids d l) := by
  unfold PIds.names_Ids.f ids
  rw [if_pos (by omega), if_pos (by omega)]
  rw [show (0 : Int) = ((0 : Nat) : Int) from rfl, names_ids_l0 hs hd hl l.length 0 k _ (by omega) (by omega) (by omega) (by simp)]
  simp
theorem ref_ids_l0 {d : List (List Int)} (hd : d.length ≤ 100) {l : List (List Int)} (hl : l.length ≤ 100) : ∀ (m i k : Nat) (acc : List Int), l.length - i = m → i ≤ l.length → m + 102 ≤ k → acc.length = i →
    PN.tattingref1_Ids.l0 k d l acc i = some (match idsM d (l.drop i) with | some r => (acc ++ r, true) | none => ([], false))
  | m, i, k, acc, hm, hi, hk, ha => by
    obtain ⟨k, rfl⟩ : ∃ k', k = k' + 1 := ⟨k - 1, by omega⟩
    simp only [PN.tattingref1_Ids.l0]
    by_cases h1 : i < l.length
    · rw [if_pos (by omega), if_pos (by omega), rd_L1_get l i h1, find_f _ hd k (by omega), List.drop_eq_getElem_cons h1]
      simp only [Option.bind_some, idsM]
      by_cases hf : (fnd d l[i]).2 = true
      · rw [if_pos hf, if_pos (by omega), wrap64_in _ (by omega) (by omega), show (i : Int) + 1 = ((i + 1 : Nat) : Int) by omega]
        rw [ref_ids_l0 hd hl (m - 1) (i + 1) k (acc ++ [(fnd d l[i]).1]) (by omega) (by omega) (by omega) (by simp; omega)]
        simp only [hf, if_true]
        cases idsM d (l.drop (i + 1)) with
        | none => rfl
        | some r => simp
      · simp only [hf]
        rfl
    · rw [if_neg (by omega), List.drop_eq_nil_of_le (by omega)]
      simp [idsM]
theorem ref_ids_f {d l : List (List Int)} (hd : d.length ≤ 100) (hl : l.length ≤ 100) (k : Nat) (hk : 202 ≤ k) : PN.tattingref1_Ids.f k d l = some (ids d l) := by
  unfold PN.tattingref1_Ids.f ids
  rw [show (0 : Int) = ((0 : Nat) : Int) from rfl, ref_ids_l0 hd hl l.length 0 k [] (by omega) (by omega) (by omega) rfl]
  simp
theorem fnd_mem {d : List (List Int)} {t : List Int} (h : t ∈ d) : (fnd d t).2 = true := by
  unfold fnd
  cases hi : d.findIdx? (fun x => decide (byt x = byt t)) with
  | some i => rfl
  | none =>
    rw [List.findIdx?_eq_none_iff] at hi
    have := hi t h
    simp at this
theorem ids_all {d l : List (List Int)} (h : ∀ x ∈ l, x ∈ d) : idsM d l = some (l.map fun t => (fnd d t).1) := by
  induction l with
  | nil => rfl
  | cons t l ih =>
    simp only [idsM, List.map_cons]
    rw [if_pos (fnd_mem (h t (List.mem_cons_self ..))), ih (fun x hx => h x (List.mem_cons_of_mem _ hx))]
    rfl
theorem ids_length (d l : List (List Int)) : (ids d l).1.length ≤ l.length := by
  unfold ids
  cases h : idsM d l with
  | none => simp
  | some r => simp [idsM_length h]

theorem namesFinds_f (a b : List (List Int)) (t : List Int) (hwa : ∀ x ∈ a, wfB x = true) : PN.tattinglaw2_NamesFinds.f 400 a b t = some true := by
  unfold PN.tattinglaw2_NamesFinds.f
  obtain ⟨p, hp, hps⟩ := few_f a 400 (by omega)
  obtain ⟨q, hq, hqs⟩ := few_f b 400 (by omega)
  simp only [tattinglaw2_awake.f, Option.bind_some, if_true]
  rw [hp]
  simp only [Option.bind_some]
  have hj : ∀ c, PN.tattinglaw2_NamesFinds.j0 400 a b t c = if c = true then some true else PN.tattinglaw2_NamesFinds.j0 400 a b t c := by
    intro c
    cases c with
    | true => simp [PN.tattinglaw2_NamesFinds.j0]
    | false => simp
  cases p with
  | false => simp [PN.tattinglaw2_NamesFinds.j0]
  | true =>
    obtain ⟨h1, h2⟩ := hps rfl
    rw [if_pos rfl, hq]
    simp only [Option.bind_some]
    cases q with
    | false => simp [PN.tattinglaw2_NamesFinds.j0]
    | true =>
      obtain ⟨h3, h4⟩ := hqs rfl
      rw [if_pos rfl]
      cases hc : decide ((t.length : Int) > 40) with
      | true => simp [PN.tattinglaw2_NamesFinds.j0]
      | false =>
        have hspec := sortU_spec a hwa
        have hlen := length_sortU a
        simp only [PN.tattinglaw2_NamesFinds.j0, Bool.false_eq_true, if_false]
        rw [ref_Sort_f hwa (by omega) h2]
        simp only [Option.bind_some]
        rw [names_find_f t hspec.1 (by omega)]
        simp only [Option.bind_some]
        rw [find_f t (by omega) 399 (by omega)]
        simp only [Option.bind_some, names_Ids.f]
        rw [names_ids_f hspec.1 (by omega) (by omega) 399 (by omega), ref_ids_f (by omega) (by omega) 399 (by omega)]
        simp only [Option.bind_some]
        rw [names_ids_f hspec.1 (by omega) (by omega) 399 (by omega)]
        simp only [Option.bind_some, beq_self_eq_true, if_true]
        rw [sameInts_f (by have := ids_length (sortU a) b; omega) 399 (by omega)]
        simp only [Option.bind_some, if_true]
        have hall := ids_all (d := sortU a) (l := a) (fun x hx => (hspec.2 x).2 hx)
        have he : ids (sortU a) a = (a.map fun t => (fnd (sortU a) t).1, true) := by unfold ids; rw [hall]
        rw [he]
        simp
end Go.Proofs.Ytnaicfffplnebaa.Man
