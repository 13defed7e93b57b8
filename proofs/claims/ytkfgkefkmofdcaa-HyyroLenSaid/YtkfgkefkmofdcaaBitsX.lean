/- The law HyyroLen. -/
import Derived.Test.YtkfgkefkmofdcaaBitsV
import Derived.Test.YtkfgkefkmofdcaaPLyI
import Derived.Test.YtkfgkefkmofdcaaRowsA
namespace Go.Proofs.Ytkfgkefkmofdcaa.Man
open Go.RowKit Go.Proofs.YtkfgkefkmofdcaaW.PrintWords Go.Proofs.YtkfgkefkmofdcaaW.PrintLast Go.Proofs.YtkfgkefkmofdcaaW.PrintMore
open Go.Proofs.BitsMath

theorem awake20 : PL.tattinglaw20_awake.f 30000 = some true := by decide +kernel
theorem len_f (l0 l1 : List Int) (h1 : wfK .i64 l0) (h2 : wfK .i64 l1) : PL.tattinglaw20_HyyroLen.f 30000 l0 l1 = some true := by
  have key : ∀ t, (t = false → l0.length ≤ 70 ∧ l1.length ≤ 70) → PL.tattinglaw20_HyyroLen.j0 30000 l0 l1 t = some true := by
    intro t ht
    rw [show (30000 : Nat) = 29999 + 1 by rfl]
    simp only [PL.tattinglaw20_HyyroLen.j0]
    cases t with
    | true => rw [if_pos rfl]
    | false =>
      obtain ⟨h3, h4⟩ := ht rfl
      have hm := mul_len (l0.length + 1) (2 * l1.length + 4) (by omega) (by omega)
      have hW : wds l1.length ≤ 4 := by unfold wds; omega
      rw [if_neg (by simp), hyyroLen_n 29999 l0 l1 (rgood_of l0 l1 h3 h4 h1 h2) (by omega), Option.bind_some, len_ref 29999 l0 l1 (by omega) (by omega) (by omega), Option.bind_some, beq_self_eq_true]
  unfold PL.tattinglaw20_HyyroLen.f
  rw [awake20, Option.bind_some, if_pos rfl]
  split
  · exact key true (fun h => by cases h)
  · refine key _ (fun h => ?_)
    have := of_decide_eq_false h
    omega
theorem law_HyyroLen (A0 : Option Addr) (c0 : Nat) (l0 : List Int) (A1 : Option Addr) (c1 : Nat) (l1 : List Int) (W : World) (h0 : Kd.C (Kd.int .i64) W A0 l0.length l0) (hc0 : l0.length ≤ c0) (hw0 : wfK .i64 l0) (h1 : Kd.C (Kd.int .i64) W A1 l1.length l1) (hc1 : l1.length ≤ c1) (hw1 : wfK .i64 l1) :
    Calls Try.prog 6 #[.slice A0 l0.length c0, .slice A1 l1.length c1] W fun e W' => e = .returned (.bool true) ∧ RowKit.Below W.heap.size W W' :=
  PL.tattinglaw20_HyyroLen.calls 30000 A0 c0 l0 A1 c1 l1 true W h0 hc0 h1 hc1 (len_f l0 l1 hw0 hw1)
end Go.Proofs.Ytkfgkefkmofdcaa.Man
