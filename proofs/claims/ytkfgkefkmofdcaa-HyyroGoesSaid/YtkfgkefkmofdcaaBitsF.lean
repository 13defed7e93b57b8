/- (*mask.Masks).Of: a number's row, fitted. -/
import Derived.Test.YtkfgkefkmofdcaaBitsE
namespace Go.Proofs.Ytkfgkefkmofdcaa.Man
open Go.RowKit Go.Sort Go.Proofs.YtkfgkefkmofdcaaW.PrintWords Go.Proofs.YtkfgkefkmofdcaaW.PrintLast Go.Proofs.YtkfgkefkmofdcaaW.PrintMore

theorem own_of_block {w : World} {base g e n : Nat} {cur : Array Value} (hb : w.heap[g]? = some (.cells cur e)) (hbg : base ≤ g) (hn : cur.size = n) (hm : n ≤ 9223372036854775807) : w.ownsRow base e 1 (.slice (some ⟨g, 0, none⟩) n n) n cur.toList :=
  ⟨by simp [hn], .inr ⟨g, n, cur, rfl, hbg, hb, Nat.le_refl _, by unfold maxLen; exact hm, by omega, by rw [Nat.mul_one, List.take_of_length_le (by simp [hn])]⟩⟩

/-- A number's row: its places' words, none where it does not stand. -/
def mwords (b : List Int) (x : Int) : List Int := if x ∈ b then mrow b x b.length else []

set_option maxHeartbeats 1000000 in
set_option maxRecDepth 100000 in
theorem of_walk (k p mb N : Nat) (v : Value) (b : List Int) (x : Int) (r : List Int) (w0 w : World) (hPB : PB w0 p b.length v mb w) (hMS : MS w0 mb (wds b.length) N (fun x => x ∈ b) (fun x => mrow b x b.length) w) (hx : (Lit.int .i64 x).wf = true) (hb : b.length ≤ 1048576)
    (hf : PV.vec_Fit.f k (mwords b x) b.length = some r) :
    Calls Try.prog 26 #[.pointer (some ⟨p, 0, none⟩), .int .i64 x] w fun e w' => ∃ v0 : Value, e = .returned v0 ∧ Kd.R (Kd.int .u64) 36 w' w.heap.size (fun _ => True) v0 r ∧ Below w.heap.size w w' := by
  have h0 : ∃ A c, (∀ W, Below w.heap.size w W → (Instr.lookup 50 (.map (some mb)) (.int .i64 x) false).run Try.prog W = .ok (.slice A (mwords b x).length c) W) ∧ (mwords b x).length ≤ c ∧ Kd.C (Kd.int .u64) w A (mwords b x).length (mwords b x) := by
    obtain ⟨u, hrun, h1, h2⟩ := hMS.looks x hx
    by_cases hxb : x ∈ b
    · obtain ⟨g, rfl, hg1, hg2⟩ := h1 hxb
      have hl := mrow_length b x b.length
      have hw : (mwords b x) = mrow b x b.length := if_pos hxb
      rw [hw, hl]
      refine ⟨_, _, hrun, Nat.le_refl _, ?_⟩
      have ho := own_of_block hg2 hg1 (n := wds b.length) (by rw [show nums .u64 (mrow b x b.length) = (mrow b x b.length).map (Value.int .u64) from rfl]; simp [hl]) (by unfold wds; omega)
      have hR := R_ints (k := .u64) (l := mrow b x b.length) (v := .slice (some ⟨g, 0, none⟩) (wds b.length) (wds b.length)) (by rw [hl]; simpa using ho)
      have := (Kd.R_reads' hR).2.2
      rwa [hl] at this
    · have hw : (mwords b x) = [] := if_neg hxb
      have h3 := h2 hxb
      subst h3
      rw [hw]
      exact ⟨none, 0, hrun, Nat.le_refl _, Kd.C_nil _ _⟩
  obtain ⟨A, c, hrun, hlc, hC⟩ := h0
  have HK : Hid (∀ W, Below w.heap.size w W → W.cell? ⟨p, 2, none⟩ = some (.map (some mb)) ∧ W.cell? ⟨p, 0, none⟩ = some (.int .i64 b.length) ∧ (Instr.lookup 50 (.map (some mb)) (.int .i64 x) false).run Try.prog W = .ok (.slice A (mwords b x).length c) W) :=
    fun W hW => ⟨(hPB.moved hW).c2, (hPB.moved hW).c0, hrun W hW⟩
  have HC := Lib.hid hC
  have HF := Lib.hid hf
  clear hC hf hrun hPB hMS
  go_enter Try.func26, Try.ntmps26
  go_wp2
  go_region_held3 (fun W => W.cell? ⟨p, 2, none⟩ = some (.map (some mb)) ∧ W.cell? ⟨p, 0, none⟩ = some (.int .i64 b.length) ∧ (Instr.lookup 50 (.map (some mb)) (.int .i64 x) false).run Try.prog W = .ok (.slice A (mwords b x).length c) W)
    (first | exact HK.out _ (by repeat (first | exact HB.out | exact Below.refl _ _ | apply below_alloc | apply below_drew1)) | exact HK.out _ (by repeat (first | exact Below.refl _ _ | apply below_alloc | apply below_drew1)))
    (first | (go_at_call 33; refine (PV.vec_Fit.calls k A c (mwords b x) b.length r w.drew (Kd.C_drew HC.out) hlc HF.out).mono ?_; rintro e w' ⟨v0, rfl, hR, hB⟩; have HR := Lib.hid hR; have HB := Lib.hid ((below_drew1 (Below.refl _ w)).trans hB); clear hR hB))
  go_wp2
  go_ret
  exact ⟨v0, rfl, HR.out, HB.out⟩
end Go.Proofs.Ytkfgkefkmofdcaa.Man
