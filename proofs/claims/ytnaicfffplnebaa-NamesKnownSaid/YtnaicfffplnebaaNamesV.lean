/- What the document tells of names: the closed law, walked. -/
import Derived.Test.YtnaicfffplnebaaNamesU
namespace Go.Proofs.Ytnaicfffplnebaa.Man
open Go.RowKit Go.Sort Go.Lib Go.Proofs.YtnaicfffplnebaaW.PrintWords Go.Proofs.YtnaicfffplnebaaW.PrintLast Go.Proofs.YtnaicfffplnebaaW.PrintMore

theorem known_find1 (w0 w : World) (a : Addr) (c : Nat) (H : Hid (KN w0 a c w)) :
    Calls Try.prog 10 #[.slice (some a) 4 c, .slice (some ⟨w.heap.size, 0, none⟩) 2 2] (litW w #[.int .u8 97, .int .u8 98]) fun e w' => e = .returned (.tuple #[.int .i64 2, .bool true]) ∧ Hid (KN w0 a c w') :=
  known_find w0 w a c [97, 98] 2 true (by simp) H (by decide +kernel)
theorem known_find2 (w0 w : World) (a : Addr) (c : Nat) (H : Hid (KN w0 a c w)) :
    Calls Try.prog 10 #[.slice (some a) 4 c, .slice (some ⟨w.heap.size, 0, none⟩) 1 1] (litW w #[.int .u8 99]) fun e w' => e = .returned (.tuple #[.int .i64 0, .bool false]) ∧ Hid (KN w0 a c w') :=
  known_find w0 w a c [99] 0 false (by simp) H (by decide +kernel)
/-- What the last row reads. -/
theorem known_reads {w0 w : World} {a : Addr} {c : Nat} (H : KN w0 a c w) : ∃ A0 c0 A1 c1 A3 c3,
    w.cell? a = some (.slice A0 0 c0) ∧ w.cell? ⟨a.block, a.off + 1, none⟩ = some (.slice A1 1 c1) ∧ w.cell? ⟨a.block, a.off + 3, none⟩ = some (.slice A3 1 c3) ∧
    (convert 24 9 (.slice A1 1 c1)).run Try.prog w = .ok (.string (⟨#[97]⟩ : ByteArray)) w ∧ (convert 24 9 (.slice A3 1 c3)).run Try.prog w = .ok (.string (⟨#[98]⟩ : ByteArray)) w := by
  obtain ⟨a', A0, c0, e0, h0, -, -⟩ := PIds.at_L1 H.toks 0 (by decide) (by decide)
  obtain rfl := Option.some.inj e0
  obtain ⟨a', A1, c1, e1, h1, -, k1⟩ := PIds.at_L1 H.toks 1 (by decide) (by decide)
  obtain rfl := Option.some.inj e1
  obtain ⟨a', A3, c3, e3, h3, -, k3⟩ := PIds.at_L1 H.toks 3 (by decide) (by decide)
  obtain rfl := Option.some.inj e3
  have s1 : strOfNums [97] = (⟨#[97]⟩ : ByteArray) := by decide +kernel
  have s3 : strOfNums [98] = (⟨#[98]⟩ : ByteArray) := by decide +kernel
  have v1 : (convert 24 9 (.slice A1 1 c1)).run Try.prog w = .ok (.string (strOfNums [97])) w := Kd.C_string Try.underlying24 Try.underlying5 Try.underlying9 k1
  have v3 : (convert 24 9 (.slice A3 1 c3)).run Try.prog w = .ok (.string (strOfNums [98])) w := Kd.C_string Try.underlying24 Try.underlying5 Try.underlying9 k3
  rw [s1] at v1
  rw [s3] at v3
  exact ⟨A0, c0, A1, c1, A3, c3, h0, h1, h3, v1, v3⟩
set_option maxHeartbeats 2000000 in
set_option maxRecDepth 100000 in
theorem law_NamesKnown (w : World) :
    Calls Try.prog 3 #[] w fun e w' => e = .returned (.bool true) ∧ RowKit.Below w.heap.size w w' := by
  have hcv := run_lit
  have HSORT := known_sort w
  simp only [kS1, kS2, kS3, kS4, kS5, kSo] at HSORT
  replace HSORT := Lib.hid HSORT
  have HI := known_ids w
  simp only [kI1, kI2, kIo] at HI
  replace HI := Lib.hid HI
  have HJ := known_ids2 w
  simp only [kJ1, kJ2, kJo] at HJ
  replace HJ := Lib.hid HJ
  go_enter Try.func3, Try.ntmps3
  go_wp2_with (first
    | (go_at_call 9
       refine HSORT.out.mono ?_
       rintro e w1 ⟨a, c, rfl, H1⟩)
    | (go_at_call 10
       with_reducible refine (known_find1 w w1 a c H1).mono ?_
       rintro e w2 ⟨rfl, H2⟩)
    | (go_at_call 10
       with_reducible refine (known_find2 w w2 a c H2).mono ?_
       rintro e w3 ⟨rfl, H3⟩)
    | (go_at_call 11
       with_reducible refine (HI.out w3 a c H3).mono ?_
       rintro e w4 ⟨B, cB, rfl, H4⟩)
    | (go_at_call 11
       with_reducible refine (HJ.out w4 a c B cB H4).mono ?_
       rintro e w5 ⟨D, cD, rfl, H5⟩)
    | (go_at_call 12
       with_reducible refine (known_two w w5 a c B cB H5).mono ?_
       rintro e w6 ⟨E, cE, F, cF, rfl, H6⟩)
    | (go_at_call 13
       with_reducible refine (known_awake w w6 a c B cB H6).mono ?_
       rintro e w7 ⟨rfl, H7⟩
       obtain ⟨A0, c0, A1, c1, A3, c3, hx0, hx1, hx3, hv1, hv3⟩ := known_reads H7.out.kn)
    | (go_at_call 14
       with_reducible refine (known_same w w7 a c B cB H7).mono ?_
       rintro e w8 ⟨rfl, H8⟩))
  go_ret
  exact ⟨rfl, H8.out.kn.below⟩
end Go.Proofs.Ytnaicfffplnebaa.Man
