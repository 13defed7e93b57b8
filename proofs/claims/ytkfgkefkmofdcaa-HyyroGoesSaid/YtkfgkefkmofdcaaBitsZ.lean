/- The law HyyroGoes, joined. -/
import Derived.Test.YtkfgkefkmofdcaaBitsY
import Derived.Test.YtkfgkefkmofdcaaRowsA
namespace Go.Proofs.Ytkfgkefkmofdcaa.Man
open Go.RowKit Go.Proofs.YtkfgkefkmofdcaaW.PrintWords Go.Proofs.YtkfgkefkmofdcaaW.PrintLast Go.Proofs.YtkfgkefkmofdcaaW.PrintMore
open Go.Proofs.BitsMath

theorem goes_mid (k : Nat) (hk : 20000 < k) (a b : List Int) (c : Nat) (h3 : a.length ≤ 40) (h4 : b.length ≤ 130) (haw : ∀ y ∈ a, 0 ≤ y ∧ y < 1048576) (hbw : ∀ y ∈ b, 0 ≤ y ∧ y < 1048576) (hc : c ≤ a.length) :
    hyyro_Rows.f (k + 1) a b = some (brows a b (a.length + 1)) ∧ hyyro_Rows.f (k + 1) (a.take c) b = some (brows (a.take c) b (c + 1)) ∧
    PL.tattingref20_SameRows.f (k + 1) (brows (a.take c) b (c + 1)) (brows (a.take c) b (c + 1)) = some true ∧ PL.tattinglaw20_HyyroGoes.l0 k a b (brows a b (a.length + 1)) 0 = some true := by
  have hg := rgood_few a b (by omega) (by omega) haw hbw
  have hW : wds b.length ≤ 4 := by unfold wds; omega
  have htl : (a.take c).length = c := by rw [List.length_take]; omega
  have hg2 := rgood_few (a.take c) b (by omega) (by omega) (fun y hy => haw y (List.mem_of_mem_take hy)) hbw
  have hr2 := hyyroRows_n (k + 1) (a.take c) b hg2 (by omega)
  rw [htl] at hr2
  exact ⟨hyyroRows_n (k + 1) a b hg (by omega), hr2, sameRows_f (k + 1) (brows (a.take c) b (c + 1)) (wds b.length) (by omega) (by rw [brows_length]; omega) (brows_len _ b _) (by rw [brows_length]; omega), goes_loop a b (by omega) (by omega) hg a.length k 0 (by omega) (by omega) (by omega)⟩
theorem goes_nums (n c : Nat) (hc : c ≤ n) : ¬ ((n + 1 : Nat) : Int) = 0 ∧ (0 : Int) ≤ (c : Int) ∧ (c : Int) ≤ (n : Int) ∧ (0 : Int) ≤ ((c + 1 : Nat) : Int) ∧ ((c + 1 : Nat) : Int) ≤ ((n + 1 : Nat) : Int) := by omega
theorem few_both (k : Nat) (hk : 20000 < k) (l0 l1 : List Int) (h3 : l0.length ≤ 40) (h4 : l1.length ≤ 130) : ∃ a b, PL.tattingref1_Few.f (k + 1) l0 3 = some a ∧ PL.tattingref1_Few.f (k + 1) l1 3 = some b ∧ a.length ≤ 40 ∧ b.length ≤ 130 ∧ (∀ y ∈ a, 0 ≤ y ∧ y < 1048576) ∧ (∀ y ∈ b, 0 ≤ y ∧ y < 1048576) := by
  obtain ⟨a, ha, hal, haw⟩ := few_f (k + 1) l0 (by omega) 3 (by decide) (by decide) (by omega)
  obtain ⟨b, hb', hbl, hbw⟩ := few_f (k + 1) l1 (by omega) 3 (by decide) (by decide) (by omega)
  exact ⟨a, b, ha, hb', by omega, by omega, haw, hbw⟩
theorem goes_body (k : Nat) (hk : 20000 < k) (l0 l1 : List Int) (h3 : l0.length ≤ 40) (h4 : l1.length ≤ 130) (x : Int) (h0 : 0 ≤ x) (h1 : x < 256) : PL.tattinglaw20_HyyroGoes.j0 (k + 1 + 1) l0 l1 x false = some true := by
  obtain ⟨a, b, ha, hb', hal, hbl, haw, hbw⟩ := few_both k hk l0 l1 h3 h4
  obtain ⟨c, hc, ec⟩ := cut_n x h0 h1 a.length hal
  obtain ⟨hr, hr2, hs, hgo⟩ := goes_mid k hk a b c hal hbl haw hbw hc
  obtain ⟨hz, hcc, hca, hcp, hcb⟩ := goes_nums a.length c hc
  have hn := w_succ a.length (Nat.lt_of_le_of_lt hal (by decide))
  have hc1 := w_succ c (Nat.lt_of_le_of_lt (Nat.le_trans hc hal) (by decide))
  have ht := brows_take a b c (a.length + 1) (Nat.succ_le_succ hc)
  have l1' := brows_length a b (a.length + 1)
  have l2' := brows_length (a.take c) b (c + 1)
  clear hal haw hbl hbw hc h3 h4 hk h0 h1
  simp only [PL.tattinglaw20_HyyroGoes.j0]
  rw [if_neg Bool.false_ne_true]
  rw [ha, Option.bind_some, hb', Option.bind_some, hn, if_neg hz, hr, Option.bind_some]
  rw [hn] at ec
  rw [ec, if_pos hcc, if_pos hca, Int.toNat_natCast, hr2, Option.bind_some, l1', l2', if_pos rfl, hc1, if_pos rfl, if_pos hcp, if_pos hcb, Int.toNat_natCast, ht, hs, Option.bind_some]
  simp only [PL.tattinglaw20_HyyroGoes.j1]
  rw [if_neg (by simp)]
  exact hgo
theorem goes_f (l0 l1 : List Int) (x : Int) (h0 : 0 ≤ x) (h1 : x < 256) : PL.tattinglaw20_HyyroGoes.f 30000 l0 l1 x = some true := by
  have key : ∀ t, (t = false → l0.length ≤ 40 ∧ l1.length ≤ 130) → PL.tattinglaw20_HyyroGoes.j0 30000 l0 l1 x t = some true := by
    intro t ht
    cases t with
    | true =>
      rw [show (30000 : Nat) = 29999 + 1 by rfl]
      simp only [PL.tattinglaw20_HyyroGoes.j0]
      rw [if_pos trivial]
    | false =>
      obtain ⟨h3, h4⟩ := ht rfl
      exact goes_body 29998 (by decide) l0 l1 h3 h4 x h0 h1
  unfold PL.tattinglaw20_HyyroGoes.f
  rw [awake20, Option.bind_some, if_pos rfl]
  split
  · exact key true (fun h => by cases h)
  · refine key _ (fun h => ?_)
    have := of_decide_eq_false h
    omega
theorem u8_of {x : Int} (h : (Lit.int .u8 x).wf = true) : 0 ≤ x ∧ x < 256 := by
  simp only [Lit.wf, Bool.and_eq_true, decide_eq_true_eq] at h
  have h1 : IntKind.u8.min = 0 := rfl
  have h2 : IntKind.u8.max = 255 := rfl
  rw [h1, h2] at h
  omega
theorem law_HyyroGoes (A0 : Option Addr) (c0 : Nat) (l0 : List Int) (A1 : Option Addr) (c1 : Nat) (l1 : List Int) (x : Int) (W : World) (h0 : Kd.C (Kd.int .i64) W A0 l0.length l0) (hc0 : l0.length ≤ c0) (_hw0 : wfK .i64 l0) (h1 : Kd.C (Kd.int .i64) W A1 l1.length l1) (hc1 : l1.length ≤ c1) (_hw1 : wfK .i64 l1) (hx : (Lit.int .u8 x).wf = true) :
    Calls Try.prog 7 #[.slice A0 l0.length c0, .slice A1 l1.length c1, .int .u8 x] W fun e W' => e = .returned (.bool true) ∧ RowKit.Below W.heap.size W W' :=
  PL.tattinglaw20_HyyroGoes.calls 30000 A0 c0 l0 A1 c1 l1 x true W h0 hc0 h1 hc1 (goes_f l0 l1 x (u8_of hx).1 (u8_of hx).2)
end Go.Proofs.Ytkfgkefkmofdcaa.Man
