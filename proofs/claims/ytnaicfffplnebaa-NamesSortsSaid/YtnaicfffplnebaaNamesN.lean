/- The laws of names, as their rows ask for them. -/
import Derived.Test.YtnaicfffplnebaaNamesM
import Derived.Test.YtnaicfffplnebaaRowsA
namespace Go.Proofs.Ytnaicfffplnebaa.Man
open Go.RowKit Go.Proofs.YtnaicfffplnebaaW.PrintWords Go.Proofs.YtnaicfffplnebaaW.PrintLast Go.Proofs.YtnaicfffplnebaaW.PrintMore

theorem toks_wf {l : List (List Int)} (h : ∀ x ∈ l, wfK .u8 x) : ∀ x ∈ l, wfB x = true := fun x hx => wfK_u8 (h x hx)
theorem law_NamesSorts (A0 : Option Addr) (c0 : Nat) (l0 : List (List Int)) (W : World) (h0 : Kd.C (Kd.slice 5 (Kd.int .u8)) W A0 l0.length l0) (hc0 : l0.length ≤ c0) (hw0 : ∀ x ∈ l0, wfK .u8 x) :
    Calls Try.prog 4 #[.slice A0 l0.length c0] W fun e W' => e = .returned (.bool true) ∧ RowKit.Below W.heap.size W W' :=
  PN.tattinglaw2_NamesSorts.calls 200 A0 c0 l0 true W h0 hc0 (namesSorts_f l0 (toks_wf hw0))
end Go.Proofs.Ytnaicfffplnebaa.Man
