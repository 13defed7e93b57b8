/- The law HyyroRows. -/
import Derived.Test.YtkfgkefkmofdcaaBitsR
import Derived.Test.YtkfgkefkmofdcaaPLyF
import Derived.Test.YtkfgkefkmofdcaaRowsA
namespace Go.Proofs.Ytkfgkefkmofdcaa.Man
open Go.RowKit Go.Proofs.YtkfgkefkmofdcaaW.PrintWords Go.Proofs.YtkfgkefkmofdcaaW.PrintLast Go.Proofs.YtkfgkefkmofdcaaW.PrintMore
open Go.Proofs.BitsMath

theorem awake20 : PL.tattinglaw20_awake.f 30000 = some true := by decide +kernel
theorem hyyroRows_f (l0 l1 : List Int) : PL.tattinglaw20_HyyroRows.f 30000 l0 l1 = some true := by
  have key : ∀ t, (t = false → l0.length ≤ 40 ∧ l1.length ≤ 130) → PL.tattinglaw20_HyyroRows.j0 30000 l0 l1 t = some true := by
    intro t ht
    rw [show (30000 : Nat) = 29999 + 1 by rfl]
    simp only [PL.tattinglaw20_HyyroRows.j0]
    cases t with
    | true => rw [if_pos rfl]
    | false =>
      obtain ⟨h0, h1⟩ := ht rfl
      rw [if_neg (by simp)]
      obtain ⟨a, ha, hal, haw⟩ := few_f 29999 l0 (by omega) 4 (by decide) (by decide) (by omega)
      obtain ⟨b, hb', hbl, hbw⟩ := few_f 29999 l1 (by omega) 4 (by decide) (by decide) (by omega)
      have hW : wds b.length ≤ 4 := by unfold wds; omega
      have hm := mul_small (a.length + 1) (3 * b.length + 5) (by omega) (by omega)
      rw [show (4 : Int) = ((4 : Nat) : Int) by rfl, ha, Option.bind_some, hb', Option.bind_some, hyyroRows_n 29999 a b (rgood_few a b (by omega) (by omega) haw hbw) (by omega), Option.bind_some,
        rows20_f 29999 a b (by omega) (by omega) (by omega), Option.bind_some, sameRows_f 29999 _ (wds b.length) (by omega) (by rw [brows_length]; omega) (brows_len a b _) (by rw [brows_length]; omega), Option.bind_some]
  unfold PL.tattinglaw20_HyyroRows.f
  rw [awake20, Option.bind_some, if_pos rfl]
  split
  · exact key true (fun h => by cases h)
  · refine key _ (fun h => ?_)
    have := of_decide_eq_false h
    omega
theorem law_HyyroRows (A0 : Option Addr) (c0 : Nat) (l0 : List Int) (A1 : Option Addr) (c1 : Nat) (l1 : List Int) (W : World) (h0 : Kd.C (Kd.int .i64) W A0 l0.length l0) (hc0 : l0.length ≤ c0) (_hw0 : wfK .i64 l0) (h1 : Kd.C (Kd.int .i64) W A1 l1.length l1) (hc1 : l1.length ≤ c1) (_hw1 : wfK .i64 l1) :
    Calls Try.prog 5 #[.slice A0 l0.length c0, .slice A1 l1.length c1] W fun e W' => e = .returned (.bool true) ∧ RowKit.Below W.heap.size W W' :=
  PL.tattinglaw20_HyyroRows.calls 30000 A0 c0 l0 A1 c1 l1 true W h0 hc0 h1 hc1 (hyyroRows_f l0 l1)
end Go.Proofs.Ytkfgkefkmofdcaa.Man
