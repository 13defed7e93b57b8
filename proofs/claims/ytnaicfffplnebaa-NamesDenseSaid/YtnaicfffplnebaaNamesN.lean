/- The laws of names, as their rows ask for them. -/
import Derived.Test.YtnaicfffplnebaaNamesS
import Derived.Test.YtnaicfffplnebaaRowsA
namespace Go.Proofs.Ytnaicfffplnebaa.Man
open Go.RowKit Go.Proofs.YtnaicfffplnebaaW.PrintWords Go.Proofs.YtnaicfffplnebaaW.PrintLast Go.Proofs.YtnaicfffplnebaaW.PrintMore

theorem toks_wf {l : List (List Int)} (h : ∀ x ∈ l, wfK .u8 x) : ∀ x ∈ l, wfB x = true := fun x hx => wfK_u8 (h x hx)
theorem law_NamesSorts (A0 : Option Addr) (c0 : Nat) (l0 : List (List Int)) (W : World) (h0 : Kd.C (Kd.slice 5 (Kd.int .u8)) W A0 l0.length l0) (hc0 : l0.length ≤ c0) (hw0 : ∀ x ∈ l0, wfK .u8 x) :
    Calls Try.prog 4 #[.slice A0 l0.length c0] W fun e W' => e = .returned (.bool true) ∧ RowKit.Below W.heap.size W W' :=
  PN.tattinglaw2_NamesSorts.calls 200 A0 c0 l0 true W h0 hc0 (namesSorts_f l0 (toks_wf hw0))
theorem law_NamesFinds (A0 : Option Addr) (c0 : Nat) (l0 : List (List Int)) (A1 : Option Addr) (c1 : Nat) (l1 : List (List Int)) (A2 : Option Addr) (c2 : Nat) (l2 : List Int) (W : World) (h0 : Kd.C (Kd.slice 5 (Kd.int .u8)) W A0 l0.length l0) (hc0 : l0.length ≤ c0) (hw0 : ∀ x ∈ l0, wfK .u8 x) (h1 : Kd.C (Kd.slice 5 (Kd.int .u8)) W A1 l1.length l1) (hc1 : l1.length ≤ c1) (_hw1 : ∀ x ∈ l1, wfK .u8 x) (h2 : Kd.C (Kd.int .u8) W A2 l2.length l2) (hc2 : l2.length ≤ c2) (_hw2 : wfK .u8 l2) :
    Calls Try.prog 5 #[.slice A0 l0.length c0, .slice A1 l1.length c1, .slice A2 l2.length c2] W fun e W' => e = .returned (.bool true) ∧ RowKit.Below W.heap.size W W' :=
  PN.tattinglaw2_NamesFinds.calls 400 A0 c0 l0 A1 c1 l1 A2 c2 l2 true W h0 hc0 h1 hc1 h2 hc2 (namesFinds_f l0 l1 l2 (toks_wf hw0))
theorem law_NamesTwo (A0 : Option Addr) (c0 : Nat) (l0 : List (List Int)) (A1 : Option Addr) (c1 : Nat) (l1 : List (List Int)) (W : World) (h0 : Kd.C (Kd.slice 5 (Kd.int .u8)) W A0 l0.length l0) (hc0 : l0.length ≤ c0) (hw0 : ∀ x ∈ l0, wfK .u8 x) (h1 : Kd.C (Kd.slice 5 (Kd.int .u8)) W A1 l1.length l1) (hc1 : l1.length ≤ c1) (hw1 : ∀ x ∈ l1, wfK .u8 x) :
    Calls Try.prog 6 #[.slice A0 l0.length c0, .slice A1 l1.length c1] W fun e W' => e = .returned (.bool true) ∧ RowKit.Below W.heap.size W W' :=
  PN.tattinglaw2_NamesTwo.calls 400 A0 c0 l0 A1 c1 l1 true W h0 hc0 h1 hc1 (namesTwo_f l0 l1 (toks_wf hw0) (toks_wf hw1))
theorem law_NamesOrder (A0 : Option Addr) (c0 : Nat) (l0 : List (List Int)) (A1 : Option Addr) (c1 : Nat) (l1 : List (List Int)) (W : World) (h0 : Kd.C (Kd.slice 5 (Kd.int .u8)) W A0 l0.length l0) (hc0 : l0.length ≤ c0) (hw0 : ∀ x ∈ l0, wfK .u8 x) (h1 : Kd.C (Kd.slice 5 (Kd.int .u8)) W A1 l1.length l1) (hc1 : l1.length ≤ c1) (hw1 : ∀ x ∈ l1, wfK .u8 x) :
    Calls Try.prog 7 #[.slice A0 l0.length c0, .slice A1 l1.length c1] W fun e W' => e = .returned (.bool true) ∧ RowKit.Below W.heap.size W W' :=
  PN.tattinglaw2_NamesOrder.calls 3000 A0 c0 l0 A1 c1 l1 true W h0 hc0 h1 hc1 (namesOrder_f l0 l1 (toks_wf hw0) (toks_wf hw1))
theorem law_NamesDense (A0 : Option Addr) (c0 : Nat) (l0 : List (List Int)) (A1 : Option Addr) (c1 : Nat) (l1 : List (List Int)) (W : World) (h0 : Kd.C (Kd.slice 5 (Kd.int .u8)) W A0 l0.length l0) (hc0 : l0.length ≤ c0) (hw0 : ∀ x ∈ l0, wfK .u8 x) (h1 : Kd.C (Kd.slice 5 (Kd.int .u8)) W A1 l1.length l1) (hc1 : l1.length ≤ c1) (hw1 : ∀ x ∈ l1, wfK .u8 x) :
    Calls Try.prog 8 #[.slice A0 l0.length c0, .slice A1 l1.length c1] W fun e W' => e = .returned (.bool true) ∧ RowKit.Below W.heap.size W W' :=
  PN.tattinglaw2_NamesDense.calls 3000 A0 c0 l0 A1 c1 l1 true W h0 hc0 h1 hc1 (namesDense_f l0 l1 (toks_wf hw0) (toks_wf hw1))
end Go.Proofs.Ytnaicfffplnebaa.Man
