/- tattingref1.Sort: tokens put where they belong, one by one. -/
import Derived.Test.YtnaicfffplnebaaNamesG
import Derived.Deep.RegionHeld3
namespace Go.Proofs.Ytnaicfffplnebaa.Man
open Go.RowKit Go.Sort Go.Lib Go.Proofs.YtnaicfffplnebaaW.PrintWords Go.Proofs.YtnaicfffplnebaaW.PrintLast Go.Proofs.YtnaicfffplnebaaW.PrintMore

/-- A value that reads as a token while the blocks of P stay. -/
structure TokW (w : World) (P : Nat → Prop) where
  v : Value
  x : List Int
  tok : Kd.FK (Kd.slice 5 (Kd.int .u8)) w P x [v]
instance (w : World) (P : Nat → Prop) : Inhabited (TokW w P) := ⟨⟨.slice none 0 0, [], fun W _ => ⟨none, 0, rfl, Nat.le_refl _, rfl, by simp, fun h => by simp at h⟩⟩⟩
theorem TokW.form {w : World} {P : Nat → Prop} (p : TokW w P) (W : World) (hW : ∀ k, P k → k < w.heap.size → W.heap[k]? = w.heap[k]?) : ∃ A c, p.v = .slice A p.x.length c ∧ p.x.length ≤ c ∧ Kd.C (Kd.int .u8) W A p.x.length p.x := by
  obtain ⟨A, c, e, hl, hC⟩ := p.tok W hW
  injection e with e _
  exact ⟨A, c, e, hl, hC⟩
theorem TokW.one {w : World} {P : Nat → Prop} (p : TokW w P) : p.v.oneCell' = true := by
  obtain ⟨A, c, e, _⟩ := p.form w (fun _ _ _ => rfl)
  rw [e]; rfl
theorem toksW {w : World} {P : Nat → Prop} {A : Option Addr} {c : Nat} {l : List (List Int)} (h : Kd.V (Kd.slice 5 (Kd.int .u8)) 24 w w.heap.size P (.slice A l.length c) l) :
    ∃ d : List (TokW w P), d.map TokW.x = l ∧ ReadsOf TokW.v default w A d.length d := by
  rcases Nat.eq_zero_or_pos l.length with h0 | h0
  · have : l = [] := List.length_eq_zero_iff.1 h0
    subst this
    exact ⟨[], rfl, rfl, by simp, fun h => by simp at h⟩
  · obtain ⟨ad, rfl, _⟩ := (Kd.V_reads' h).2.2.2.2 h0
    have key : ∀ m, m ≤ l.length → ∃ d : List (TokW w P), d.map TokW.x = l.take m ∧ ∀ j, j < m → w.cell? (ad.add j) = some (d.getD j default).v := by
      intro m
      induction m with
      | zero => intro _; exact ⟨[], rfl, fun j hj => absurd hj (Nat.not_lt_zero _)⟩
      | succ m ih =>
        intro hm
        obtain ⟨d, hd1, hd2⟩ := ih (by omega)
        obtain ⟨cs, hl, hK, hc⟩ := Kd.V_get h [] (m : Int) (by omega) (by omega)
        have hdl : d.length = m := by have := congrArg List.length hd1; simp at this; omega
        have hc1 : ∃ v, cs = [v] := by
          have : cs.length = 1 := hl
          match cs, this with
          | [v], _ => exact ⟨v, rfl⟩
        obtain ⟨v, rfl⟩ := hc1
        rw [Int.toNat_natCast] at hK hc
        have hx : l.getD m [] = l[m] := by rw [List.getD_eq_getElem?_getD, List.getElem?_eq_getElem (by omega)]; rfl
        rw [hx] at hK
        refine ⟨d ++ [⟨v, l[m], hK⟩], ?_, fun j hj => ?_⟩
        · rw [List.map_append, hd1, List.take_succ_eq_append_getElem (by omega)]; rfl
        · rcases Nat.lt_or_ge j m with hj' | hj'
          · rw [show (d ++ [(⟨v, l[m], hK⟩ : TokW w P)]).getD j default = d.getD j default by
              rw [List.getD_eq_getElem?_getD, List.getD_eq_getElem?_getD, List.getElem?_append_left (by omega)]]
            exact hd2 j hj'
          · have hjm : j = m := by omega
            have hcc := hc 0 v rfl
            rw [show m * (Kd.slice 5 (Kd.int .u8)).sz + 0 = m from Nat.mul_one m] at hcc
            rw [show (d ++ [(⟨v, l[m], hK⟩ : TokW w P)]).getD j default = ⟨v, l[m], hK⟩ by
              rw [List.getD_eq_getElem?_getD, List.getElem?_append_right (by omega), show j - d.length = 0 by omega]; rfl]
            rw [hjm]
            exact hcc
    obtain ⟨d, hd1, hd2⟩ := key l.length (Nat.le_refl _)
    rw [List.take_length] at hd1
    have hdl : d.length = l.length := by rw [← hd1]; simp
    exact ⟨d, hd1, rfl, by rw [hdl]; exact (Kd.V_reads' h).2.2.2.1, fun _ => ⟨ad, rfl, fun j hj => hd2 j (by omega)⟩⟩

/-- Where a token belongs. -/
def placeU (x : List Int) (l : List (List Int)) : Nat := (l.takeWhile fun y => decide (ltT y x)).length
theorem placeU_cons (x y : List Int) (l : List (List Int)) : placeU x (y :: l) = if ltT y x then placeU x l + 1 else 0 := by
  simp only [placeU, List.takeWhile_cons]
  by_cases h : ltT y x <;> simp [h]
theorem insU_place (x : List Int) (l : List (List Int)) : insU x l = if placeU x l < l.length ∧ byt (l.getD (placeU x l) []) = byt x then l else l.take (placeU x l) ++ [x] ++ l.drop (placeU x l) := by
  induction l with
  | nil => simp [insU, placeU]
  | cons y l ih =>
    by_cases h : ltT y x
    · rw [placeU_cons, if_pos h]
      simp only [insU, h, if_true]
      rw [ih]
      by_cases hc : placeU x l < l.length ∧ byt (l.getD (placeU x l) []) = byt x
      · rw [if_pos hc, if_pos ⟨by simp; omega, by simpa using hc.2⟩]
      · rw [if_neg hc, if_neg (by intro hd; exact hc ⟨by have := hd.1; simp at this; omega, by simpa using hd.2⟩)]
        simp
    · rw [placeU_cons, if_neg h]
      simp only [insU, h, if_false]
      by_cases h2 : byt y = byt x
      · rw [if_pos h2, if_pos ⟨by simp, by simpa using h2⟩]
      · rw [if_neg h2, if_neg (by intro hd; exact h2 (by simpa using hd.2))]
        simp
end Go.Proofs.Ytnaicfffplnebaa.Man
