/- Arguments that came in, as rows of numbers. -/
import Derived.Test.YtnaicfffplnebaaWMore
import Derived.Test.YtnaicfffplnebaaProg
import Derived.ProofKit
import Derived.ChangeSlices
import Derived.Deep.Matrix
import Derived.Below
namespace Go.Proofs.Ytnaicfffplnebaa.Man
open Go.Deep Go.ChangeShapes Go.WideShapes Go.ChangeAt Go.RowKit Go.Proofs.YtnaicfffplnebaaW.PrintWords Go.Proofs.YtnaicfffplnebaaW.PrintLast Go.Proofs.YtnaicfffplnebaaW.PrintMore

/-- Numbers that are of the kind k. -/
def wfK (k : IntKind) (l : List Int) : Prop := ∀ n ∈ l, (Lit.int k n).wf = true
theorem C_of_cells {k : IntKind} {W : World} {A : Option Addr} {n : Nat} {l : List Int} (hl : l.length = n) (hm : n ≤ maxLen) (hA : A = none → n = 0) (h : ∀ a, A = some a → ∀ i, i < n → W.cell? (a.add i) = some (.int k (l.getD i 0))) : Kd.C (Kd.int k) W A n l := by
  refine ⟨hl, by simpa [maxLen] using hm, fun hp => ?_⟩
  cases A with
  | none => have := hA rfl; omega
  | some a =>
    refine ⟨a, rfl, fun j p hj => ⟨[.int k p], rfl, rfl, fun i u hu => ?_⟩⟩
    have hi0 : i = 0 := by
      have := (List.getElem?_eq_some_iff.1 hu).1
      simpa using this
    subst hi0
    have hjl := (List.getElem?_eq_some_iff.1 hj).1
    have h2 : Value.int k p = u := by simpa using hu
    have h3 := h a rfl j (by omega)
    rw [List.getD_eq_getElem?_getD, hj] at h3
    rw [show j * (Kd.int k).sz + 0 = j from Nat.mul_one j, ← h2]
    exact h3
theorem open_row {H : Type} {enc : TypeId × Value → H} {W : World} {t e : TypeId} {k : IntKind} {a : Option Addr} {len cap : Nat} {d : DataW H} {ps : List MemPlace} (ht : Try.prog.underlying t = some (.slice e)) (he : Try.prog.underlying e = some (.int k)) (hc : Try.prog.cellsOf e = 1)
    (h : DataW.Trod enc Try.prog W 0 (fun _ => true) true t (.slice a len cap) d ps) : ∃ l : List Int, l.length = len ∧ len ≤ cap ∧ Kd.C (Kd.int k) W a len l ∧ wfK k l := by
  obtain ⟨fuel, hf⟩ := h
  rcases open_ints ht he hc hf with ⟨hcs, _⟩ | ⟨x, l, c, zs, hcs, _, hl, hm, hz, _, hcell, hwz⟩
  · simp [Value.cells] at hcs
    obtain ⟨rfl, rfl, rfl⟩ := hcs
    exact ⟨[], rfl, Nat.le_refl _, ⟨rfl, by simp, fun h => by simp at h⟩, fun n hn => by simp at hn⟩
  · simp [Value.cells] at hcs
    obtain ⟨rfl, rfl, rfl⟩ := hcs
    simp only [if_true] at hz
    refine ⟨zs.take len, by rw [List.length_take]; omega, hl, C_of_cells (by rw [List.length_take]; omega) (Nat.le_trans hl hm) (fun e => by cases e) (fun a' e i hi => ?_), fun n hn => hwz n (List.mem_of_mem_take hn)⟩
    injection e with e
    subst e
    rw [hcell i (by omega), List.getD_eq_getElem?_getD, List.getD_eq_getElem?_getD, List.getElem?_take, if_pos hi]
theorem open_rows {H : Type} {enc : TypeId × Value → H} {W : World} {t e q : TypeId} {k : IntKind} {a : Option Addr} {len cap : Nat} {d : DataW H} {ps : List MemPlace} (ht : Try.prog.underlying t = some (.slice e)) (he : Try.prog.underlying e = some (.slice q)) (hq : Try.prog.underlying q = some (.int k)) (ce : Try.prog.cellsOf e = 1) (cq : Try.prog.cellsOf q = 1)
    (h : DataW.Trod enc Try.prog W 0 (fun _ => true) true t (.slice a len cap) d ps) : ∃ l : List (List Int), l.length = len ∧ len ≤ cap ∧ Kd.C (Kd.slice q (Kd.int k)) W a len l ∧ ∀ x ∈ l, wfK k x := by
  obtain ⟨fuel, hf⟩ := h
  rcases open_int_rows ht he hq ce cq hf with ⟨hcs, _⟩ | ⟨x, l, c, A, L, C, Z, hcs, _, hl, hm, _, hr⟩
  · simp [Value.cells] at hcs
    obtain ⟨rfl, rfl, rfl⟩ := hcs
    exact ⟨[], rfl, Nat.le_refl _, ⟨rfl, by simp, fun h => by simp at h⟩, fun n hn => by simp at hn⟩
  · simp [Value.cells] at hcs
    obtain ⟨rfl, rfl, rfl⟩ := hcs
    refine ⟨(List.range len).map fun r => (Z r).take (L r), by simp, hl, ⟨by simp, by have := Nat.le_trans hl hm; simpa [maxLen] using this, fun _ => ⟨x, rfl, fun j y hj => ?_⟩⟩, fun y hy => ?_⟩
    · rw [List.getElem?_map] at hj
      obtain ⟨j', hj', rfl⟩ := Option.map_eq_some_iff.1 hj
      have hjl := (List.getElem?_eq_some_iff.1 hj').1
      have hjj : j' = j := by
        have := (List.getElem?_eq_some_iff.1 hj').2
        simpa using this.symm
      subst hjj
      rw [List.length_range] at hjl
      obtain ⟨h1, h2, h3, h4, h5, h6, h7⟩ := hr j' (by omega)
      have hlen : ((Z j').take (L j')).length = L j' := by rw [List.length_take]; omega
      refine ⟨[.slice (A j') (L j') (C j')], rfl, ⟨A j', C j', by rw [hlen], by rw [hlen]; exact h2, ?_⟩, fun i u hu => ?_⟩
      · rw [hlen]
        refine C_of_cells hlen (Nat.le_trans h2 h3) (fun e => by have := h6 e; omega) (fun a' e i hi => ?_)
        rw [(h7 a' e).2 i (by omega), List.getD_eq_getElem?_getD, List.getD_eq_getElem?_getD, List.getElem?_take, if_pos hi]
      · have hi0 : i = 0 := by
          have := (List.getElem?_eq_some_iff.1 hu).1
          simpa using this
        subst hi0
        have hu' : Value.slice (A j') (L j') (C j') = u := by simpa using hu
        subst hu'
        rw [show j' * (Kd.slice q (Kd.int k)).sz + 0 = j' from Nat.mul_one j']
        exact h1
    · obtain ⟨r, hr1, rfl⟩ := List.mem_map.1 hy
      rw [List.mem_range] at hr1
      obtain ⟨h1, h2, h3, h4, h5, h6, h7⟩ := hr r (by omega)
      exact fun n hn => h5 n (List.mem_of_mem_take hn)
theorem wfK_u8 {l : List Int} (h : wfK .u8 l) : (l.all fun n => decide (0 ≤ n) && decide (n ≤ 255)) = true := by
  rw [List.all_eq_true]
  intro n hn
  have := h n hn
  simp [Lit.wf, IntKind.min, IntKind.max, IntKind.signed, IntKind.bits] at this ⊢
  omega
end Go.Proofs.Ytnaicfffplnebaa.Man
