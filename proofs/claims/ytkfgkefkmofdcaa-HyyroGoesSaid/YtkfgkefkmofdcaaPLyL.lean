-- Written by a program of this repo (wip/pprint.py) over the kit's print; it is no print of the kit's own.
import Derived.Test.YtkfgkefkmofdcaaPLx0
namespace Go.Proofs.Ytkfgkefkmofdcaa.PL
open Go.Proofs.Ytkfgkefkmofdcaa.Man Go.Proofs.Ytkfgkefkmofdcaa.PV
open Go.RowKit Go.Proofs.YtkfgkefkmofdcaaW.PrintWords Go.Proofs.YtkfgkefkmofdcaaW.PrintLast Go.Proofs.YtkfgkefkmofdcaaW.PrintMore
attribute [local go_sem] max2_int min2_int max_two min_two max_three min_three max_four min_four   -- for this text's walks alone
set_option linter.unusedVariables false
set_option linter.unusedSimpArgs false

/-! ### tattingref5_Laid: function 28 -/
mutual
def tattingref5_Laid.l0 : Nat → List Bool → Int → List Int → Int → Option (List Int)
  | 0, _, _, _, _ => none
  | k + 1, x0, x1, x5, x6 => if x6 < (x0.length : Int) then (tattingref5_Laid.j1 k x0 x1 x5 x6 (decide ((wrap64 (Int.tdiv x6 64)) < x1))) else (tattingref5_Laid.j1 k x0 x1 x5 x6 false)
def tattingref5_Laid.j1 : Nat → List Bool → Int → List Int → Int → Bool → Option (List Int)
  | 0, _, _, _, _, _ => none
  | k + 1, x0, x1, x5, x6, x18 => if x18 = true then (if 0 ≤ x6 then (if x6 < (x0.length : Int) then (if rdOf false x0 x6 = true then (if 0 ≤ (wrap64 (Int.tdiv x6 64)) then (if (wrap64 (Int.tdiv x6 64)) < (x5.length : Int) then (if 0 ≤ (IntKind.u64.wrap (Int.tmod x6 64)) then (tattingref5_Laid.l0 k x0 x1 (x5.set ((wrap64 (Int.tdiv x6 64)) : Int).toNat (Go.bits .or .u64 (rd x5 (wrap64 (Int.tdiv x6 64))) (shl .u64 1 (IntKind.u64.wrap (Int.tmod x6 64))))) (wrap64 (x6 + 1))) else (none)) else (none)) else (none)) else (tattingref5_Laid.l0 k x0 x1 x5 (wrap64 (x6 + 1)))) else (none)) else (none)) else (some x5)
end
def tattingref5_Laid.f (k : Nat) (l0 : List Bool) (a1 : Int) : Option (List Int) := if 0 ≤ a1 then (if (a1 : Int).toNat ≤ 35184372088832 then (tattingref5_Laid.l0 k l0 a1 (List.replicate (a1 : Int).toNat 0) 0) else (none)) else (none)
theorem tattingref5_Laid.mono_l : ∀ k, (∀ y0 y1 y2 y3, LeO (tattingref5_Laid.l0 k y0 y1 y2 y3) (tattingref5_Laid.l0 (k + 1) y0 y1 y2 y3)) ∧ (∀ y0 y1 y2 y3 y4, LeO (tattingref5_Laid.j1 k y0 y1 y2 y3 y4) (tattingref5_Laid.j1 (k + 1) y0 y1 y2 y3 y4))
  | 0 => ⟨fun _ _ _ _ r h => by simp [tattingref5_Laid.l0] at h, fun _ _ _ _ _ r h => by simp [tattingref5_Laid.j1] at h⟩
  | k + 1 => by
    obtain ⟨ih0, ih1⟩ := tattingref5_Laid.mono_l k
    refine ⟨?_, ?_⟩
    · intro y0 y1 y2 y3
      unfold tattingref5_Laid.l0
      repeat' first
      | (with_reducible exact ih0 _ _ _ _)
      | (with_reducible exact ih1 _ _ _ _ _)
      | (with_reducible exact LeO.refl _)
      | (with_reducible exact LeO.none _)
      | (with_reducible refine LeO.ite ?_ ?_)
      | (with_reducible refine LeO.bind ?_ (fun _ => ?_))
      | exact ih0 _ _ _ _
      | exact ih1 _ _ _ _ _
      | exact LeO.none _
      | refine LeO.ite ?_ ?_
      | refine LeO.bind ?_ (fun _ => ?_)
    · intro y0 y1 y2 y3 y4
      unfold tattingref5_Laid.j1
      repeat' first
      | (with_reducible exact ih0 _ _ _ _)
      | (with_reducible exact ih1 _ _ _ _ _)
      | (with_reducible exact LeO.refl _)
      | (with_reducible exact LeO.none _)
      | (with_reducible refine LeO.ite ?_ ?_)
      | (with_reducible refine LeO.bind ?_ (fun _ => ?_))
      | exact ih0 _ _ _ _
      | exact ih1 _ _ _ _ _
      | exact LeO.none _
      | refine LeO.ite ?_ ?_
      | refine LeO.bind ?_ (fun _ => ?_)
theorem tattingref5_Laid.mono : ∀ a0 a1 k, LeO (tattingref5_Laid.f k a0 a1) (tattingref5_Laid.f (k + 1) a0 a1) := by
  intro a0 a1 k
  obtain ⟨ih0, ih1⟩ := tattingref5_Laid.mono_l k
  unfold tattingref5_Laid.f
  repeat' first
      | (with_reducible exact ih0 _ _ _ _)
      | (with_reducible exact ih1 _ _ _ _ _)
      | (with_reducible exact LeO.refl _)
      | (with_reducible exact LeO.none _)
      | (with_reducible refine LeO.ite ?_ ?_)
      | (with_reducible refine LeO.bind ?_ (fun _ => ?_))
      | exact ih0 _ _ _ _
      | exact ih1 _ _ _ _ _
      | exact LeO.none _
      | refine LeO.ite ?_ ?_
      | refine LeO.bind ?_ (fun _ => ?_)
set_option maxHeartbeats 8000000 in
set_option maxRecDepth 100000 in
theorem tattingref5_Laid.calls (k : Nat) (A0 : Option Addr) (c0 : Nat) (l0 : List Bool) (a1 : Int) (r : List Int) (w : World) (hr0 : Kd.C Kd.bool w A0 l0.length l0) (hc0 : l0.length ≤ c0) (h : tattingref5_Laid.f k l0 a1 = some r) :
    Calls Try.prog 28 #[.slice A0 l0.length c0, .int .i64 a1] w fun e w' => ∃ v0_ : Value, e = .returned (v0_) ∧ Kd.R (Kd.int .u64) 36 w' w.heap.size (fun _ => True) v0_ r ∧ Below w.heap.size w w' := by
  have HR0 := Aside0.mk hr0
  have HC0 := Aside0.mk hc0
  clear hr0 hc0
  have HB := Aside0.mk (Below.refl w.heap.size w)
  have H : (if 0 ≤ a1 then (if (a1 : Int).toNat ≤ 35184372088832 then (tattingref5_Laid.l0 k l0 a1 (List.replicate (a1 : Int).toNat 0) 0) else (none)) else (none)) = some r := h
  clear h
  by_cases c3 : 0 ≤ a1
  · rw [if_pos c3] at H
    have c3b0 := eq_true c3
    have c3b1 : decide (0 ≤ a1) = true := decide_eq_true c3
    clear c3
    by_cases c4 : (a1 : Int).toNat ≤ 35184372088832
    · rw [if_pos c4] at H
      have c4b0 := eq_true c4
      have c4b1 : decide ((a1 : Int).toNat ≤ 35184372088832) = true := decide_eq_true c4
      clear c4
      obtain ⟨y149, hy149⟩ : ∃ y_ : List Int, y_ = (List.replicate (a1 : Int).toNat 0) := ⟨_, rfl⟩
      replace H : (tattingref5_Laid.l0 k l0 a1 y149 0) = some r := by first | (rw [hy149]; with_reducible exact H) | (have H2_ := (Option.bind_some _ _).symm.trans H; rw [hy149]; with_reducible exact H2_) | (have H2_ := (Option.bind_some _ _).symm.trans H; with_reducible exact H2_) | with_reducible exact H | (rw [hy149]; exact H) | exact H
      have Ny149 := Aside0.mk hy149
      clear hy149
      have H' := Aside0.mk H
      clear H
      go_enter Try.func28, Try.ntmps28
      go_wp2_with (first | ((with_reducible refine gate_dst (N := 8) rfl ?_); refine Kd.R_make (Kd.int .u64) _ 36 rfl (N := 8) rfl 31 _ _ rfl a1 rfl rfl Try.underlying31 (.int .u64 0) 8 info36 rfl (by decide) (by omega) 0 (ok := fun _ => True) (okp := fun _ => True) rfl (fun _ hk => hk) trivial (of_decide_eq_true (by first | (with_reducible assumption) | assumption)) (Nat.le_trans (Nat.mul_le_mul_right _ (of_decide_eq_true (by first | (with_reducible assumption) | assumption) : a1.toNat ≤ 35184372088832)) (by omega)) (Below.refl _ _) (Nat.le_refl _) ?_; intro v150 w5 ho6 hb hg_ hnew_; clear hg_ hnew_; (first | rw [← Ny149.out] at ho6 | (simp only [Int.reduceToNat] at ho6; rw [← Ny149.out] at ho6)); have n0_ := Aside0.mk (Kd.R_lower ho6 (below_size (by repeat (first | (with_reducible first | exact HB.out | apply below_alloc | apply pw_below_drewN | apply below_drew1) | exact HB.out)))); have n1_ := Aside0.mk (below_step (by repeat (first | (with_reducible first | exact HB.out | apply below_alloc | apply pw_below_drewN | apply below_drew1) | exact HB.out)) hb); clear HB; have HO151 := n0_; have HB := n1_; clear n0_ n1_; clear hb ho6))
      go_loopg [6] k (fun kq v6 w' => ∃ (x5_1 : List Int) (x6_1 : Int), v6 = .int .i64 x6_1 ∧ Aside0 (tattingref5_Laid.l0 kq l0 a1 x5_1 x6_1 = some r) ∧ Aside0 (kq ≤ k) ∧ Aside0 (Kd.R (Kd.int .u64) 36 w' w.heap.size (fun _ => True) v150 x5_1) ∧ Aside0 (Below w.heap.size w w'))
      case atStart => exact ⟨(y149), (0), (by first | rfl | (simp; done) | (simp [*]; done)), H', ⟨Nat.le_refl _⟩, ⟨by (with_reducible repeat (first | apply Kd.R_alloc | apply Kd.R_drewN | apply Kd.R_drew)); exact HO151.out⟩, ⟨by repeat (first | (with_reducible first | exact HB.out | apply below_alloc | apply pw_below_drewN | apply below_drew1) | exact HB.out)⟩⟩
      case round =>
        clear H'
        try clear c2
        try clear p2
        try clear c3
        try clear c3b0
        try clear c3b1
        try clear c4
        try clear c4b0
        try clear c4b1
        obtain ⟨x5_1, x6_1, rfl, HA, HK1, HO_5, HB⟩ := hrel
        cases gk with
        | zero => exact absurd HA.out (by simp [tattingref5_Laid.l0])
        | succ k1 =>
          have H := HA.out
          clear HA
          simp only [tattingref5_Laid.l0] at H
          have HC7 := Aside0.mk H
          clear H
          go_upto_region 3 with (fail)
          go_cut [18] (fun v18 wc => ∃ (kq : Nat) (x18_6 : Bool), v18 = .bool x18_6 ∧ Aside0 (tattingref5_Laid.j1 kq l0 a1 x5_1 x6_1 x18_6 = some r) ∧ Aside0 (kq ≤ k1) ∧ Aside0 (Kd.R (Kd.int .u64) 36 wc w.heap.size (fun _ => True) v150 x5_1) ∧ Aside0 (Below w.heap.size w wc))
          case first =>
            have H := HC7.out
            clear HC7
            by_cases c8 : x6_1 < (l0.length : Int)
            · rw [if_pos c8] at H
              have c8b0 : decide (x6_1 < (l0.length : Int)) = true := decide_eq_true c8
              clear c8
              (first | rw [c8b0] | (simp only [i64_w, i32_w]; rw [c8b0]) | skip)
              have H' := Aside0.mk H
              clear H
              go_wp2
              go_meet
              case rel => exact ⟨_, (decide ((wrap64 (Int.tdiv x6_1 64)) < a1)), (by first | rfl | (simp; done) | (simp [*]; done)), H', ⟨by have := HK1.out; first | omega | exact Nat.le_refl _⟩, ⟨by (with_reducible repeat (first | apply Kd.R_alloc | apply Kd.R_drewN | apply Kd.R_drew)); exact HO_5.out⟩, ⟨by repeat (first | (with_reducible first | exact HB.out | apply below_alloc | apply pw_below_drewN | apply below_drew1) | exact HB.out)⟩⟩
            · rw [if_neg c8] at H
              have c8b0 : decide (x6_1 < (l0.length : Int)) = false := decide_eq_false c8
              clear c8
              (first | rw [c8b0] | (simp only [i64_w, i32_w]; rw [c8b0]) | skip)
              have H' := Aside0.mk H
              clear H
              go_wp2
              go_meet
              case rel => exact ⟨_, (false), (by first | rfl | (simp; done) | (simp [*]; done)), H', ⟨by have := HK1.out; first | omega | exact Nat.le_refl _⟩, ⟨by (with_reducible repeat (first | apply Kd.R_alloc | apply Kd.R_drewN | apply Kd.R_drew)); exact HO_5.out⟩, ⟨by repeat (first | (with_reducible first | exact HB.out | apply below_alloc | apply pw_below_drewN | apply below_drew1) | exact HB.out)⟩⟩
          case rest =>
            clear HC7
            try clear c2
            try clear p2
            try clear c3
            try clear c3b0
            try clear c3b1
            try clear c4
            try clear c4b0
            try clear c4b1
            try clear p6
            try clear c8
            try clear c8b0
            try clear p2
            obtain ⟨kq, x18_6, rfl, HA, HJ6, HO_5, HB⟩ := hcut
            cases kq with
            | zero => exact absurd HA.out (by simp [tattingref5_Laid.j1])
            | succ kj6 =>
              have H := HA.out
              clear HA
              simp only [tattingref5_Laid.j1] at H
              by_cases c9 : x18_6 = true
              · subst c9
                have H1 : (if 0 ≤ x6_1 then (if x6_1 < (l0.length : Int) then (if rdOf false l0 x6_1 = true then (if 0 ≤ (wrap64 (Int.tdiv x6_1 64)) then (if (wrap64 (Int.tdiv x6_1 64)) < (x5_1.length : Int) then (if 0 ≤ (IntKind.u64.wrap (Int.tmod x6_1 64)) then (tattingref5_Laid.l0 kj6 l0 a1 (x5_1.set ((wrap64 (Int.tdiv x6_1 64)) : Int).toNat (Go.bits .or .u64 (rd x5_1 (wrap64 (Int.tdiv x6_1 64))) (shl .u64 1 (IntKind.u64.wrap (Int.tmod x6_1 64))))) (wrap64 (x6_1 + 1))) else (none)) else (none)) else (none)) else (tattingref5_Laid.l0 kj6 l0 a1 x5_1 (wrap64 (x6_1 + 1)))) else (none)) else (none)) = some r := by rw [if_pos rfl] at H; exact H
                clear H
                have H := H1
                clear H1
                by_cases c10 : 0 ≤ x6_1
                · rw [if_pos c10] at H
                  have c10b0 : decide (0 ≤ x6_1) = true := decide_eq_true c10
                  clear c10
                  by_cases c11 : x6_1 < (l0.length : Int)
                  · rw [if_pos c11] at H
                    have c11b0 : decide (x6_1 < (l0.length : Int)) = true := decide_eq_true c11
                    clear c11
                    obtain ⟨bq12, hbq12⟩ : ∃ b_ : Bool, b_ = (rdOf false l0 x6_1) := ⟨_, rfl⟩
                    replace H : (if bq12 = true then (if 0 ≤ (wrap64 (Int.tdiv x6_1 64)) then (if (wrap64 (Int.tdiv x6_1 64)) < (x5_1.length : Int) then (if 0 ≤ (IntKind.u64.wrap (Int.tmod x6_1 64)) then (tattingref5_Laid.l0 kj6 l0 a1 (x5_1.set ((wrap64 (Int.tdiv x6_1 64)) : Int).toNat (Go.bits .or .u64 (rd x5_1 (wrap64 (Int.tdiv x6_1 64))) (shl .u64 1 (IntKind.u64.wrap (Int.tmod x6_1 64))))) (wrap64 (x6_1 + 1))) else (none)) else (none)) else (none)) else (tattingref5_Laid.l0 kj6 l0 a1 x5_1 (wrap64 (x6_1 + 1)))) = some r := by rw [← hbq12] at H; exact H
                    have Nbq12 := Aside0.mk hbq12
                    clear hbq12
                    by_cases c13 : bq12 = true
                    · subst c13
                      have H1 : (if 0 ≤ (wrap64 (Int.tdiv x6_1 64)) then (if (wrap64 (Int.tdiv x6_1 64)) < (x5_1.length : Int) then (if 0 ≤ (IntKind.u64.wrap (Int.tmod x6_1 64)) then (tattingref5_Laid.l0 kj6 l0 a1 (x5_1.set ((wrap64 (Int.tdiv x6_1 64)) : Int).toNat (Go.bits .or .u64 (rd x5_1 (wrap64 (Int.tdiv x6_1 64))) (shl .u64 1 (IntKind.u64.wrap (Int.tmod x6_1 64))))) (wrap64 (x6_1 + 1))) else (none)) else (none)) else (none)) = some r := by rw [if_pos rfl] at H; exact H
                      clear H
                      have H := H1
                      clear H1
                      obtain ⟨ji14, hji14⟩ : ∃ j_ : Int, (wrap64 (Int.tdiv x6_1 64)) = j_ := ⟨_, rfl⟩
                      replace H : (if 0 ≤ (ji14) then (if (ji14) < (x5_1.length : Int) then (if 0 ≤ (IntKind.u64.wrap (Int.tmod x6_1 64)) then (tattingref5_Laid.l0 kj6 l0 a1 (x5_1.set ((ji14) : Int).toNat (Go.bits .or .u64 (rd x5_1 (ji14)) (shl .u64 1 (IntKind.u64.wrap (Int.tmod x6_1 64))))) (wrap64 (x6_1 + 1))) else (none)) else (none)) else (none)) = some r := by first | (rw [hji14] at H; exact H) | (simp only [hji14] at H ⊢; exact H)
                      have hji14w : (IntKind.i64.wrap (Int.tdiv x6_1 64)) = ji14 := (i64_w _).trans hji14
                      by_cases c15 : 0 ≤ (ji14)
                      · rw [if_pos c15] at H
                        have c15b0 : decide (0 ≤ (ji14)) = true := decide_eq_true c15
                        clear c15
                        by_cases c16 : (ji14) < (x5_1.length : Int)
                        · rw [if_pos c16] at H
                          have c16b0 : decide ((ji14) < (x5_1.length : Int)) = true := decide_eq_true c16
                          clear c16
                          obtain ⟨ji17, hji17⟩ : ∃ j_ : Int, (IntKind.u64.wrap (Int.tmod x6_1 64)) = j_ := ⟨_, rfl⟩
                          replace H : (if 0 ≤ (ji17) then (tattingref5_Laid.l0 kj6 l0 a1 (x5_1.set ((ji14) : Int).toNat (Go.bits .or .u64 (rd x5_1 (ji14)) (shl .u64 1 (ji17)))) (wrap64 (x6_1 + 1))) else (none)) = some r := by first | (rw [hji17] at H; exact H) | (simp only [hji17] at H ⊢; exact H)
                          by_cases c18 : 0 ≤ (ji17)
                          · rw [if_pos c18] at H
                            have c18b0 := eq_true c18
                            have c18b1 : decide (0 ≤ (ji17)) = true := decide_eq_true c18
                            clear c18
                            obtain ⟨ji19, hji19⟩ : ∃ j_ : Int, (shl .u64 1 (ji17)) = j_ := ⟨_, rfl⟩
                            replace H : (tattingref5_Laid.l0 kj6 l0 a1 (x5_1.set ((ji14) : Int).toNat (Go.bits .or .u64 (rd x5_1 (ji14)) (ji19))) (wrap64 (x6_1 + 1))) = some r := by first | (rw [hji19] at H; exact H) | (simp only [hji19] at H ⊢; exact H)
                            have hji19_ : (IntKind.u64.wrap (1 * 2 ^ min (ji17).toNat 64)) = ji19 := hji19
                            have hji19z : (ji17) ≤ 64 → (IntKind.u64.wrap (1 * 2 ^ (ji17).toNat)) = ji19 := shl_small hji19
                            have hji19u : (IntKind.u64.wrap (2 ^ min (ji17).toNat 64)) = ji19 := by have h_ := hji19_; rw [Int.one_mul] at h_; exact h_
                            have hji19v : (ji17) ≤ 64 → (IntKind.u64.wrap (2 ^ (ji17).toNat)) = ji19 := fun hle_ => by have h_ := hji19z hle_; rw [Int.one_mul] at h_; exact h_
                            obtain ⟨y154, hy154⟩ : ∃ y_ : List Int, y_ = (x5_1.set ((ji14) : Int).toNat (Go.bits .or .u64 (rd x5_1 (ji14)) (ji19))) := ⟨_, rfl⟩
                            replace H : (tattingref5_Laid.l0 kj6 l0 a1 y154 (wrap64 (x6_1 + 1))) = some r := by first | (rw [hy154]; with_reducible exact H) | (have H2_ := (Option.bind_some _ _).symm.trans H; rw [hy154]; with_reducible exact H2_) | (have H2_ := (Option.bind_some _ _).symm.trans H; with_reducible exact H2_) | with_reducible exact H | (rw [hy154]; exact H) | exact H
                            have Ny154 := Aside0.mk hy154
                            clear hy154
                            have H' := Aside0.mk H
                            clear H
                            have p152 : 0 ≤ (x6_1 : Int) := of_decide_eq_true (by first | (with_reducible assumption) | assumption)
                            have q152 : x6_1 < (l0.length : Int) := of_decide_eq_true (by first | (with_reducible assumption) | assumption)
                            obtain ⟨ad152, e152, hx152_0⟩ := Kd.at_bool HR0.out x6_1 p152 q152
                            (try rw [← Nbq12.out] at hx152_0)
                            cases e152
                            replace hx152_0 := (HB.out.cell (World.block_lt_of_cell? w _ hx152_0)).trans hx152_0
                            replace p152 := eq_true p152
                            replace q152 := eq_true q152
                            obtain ⟨Ao21, co21, eo21⟩ := Kd.R_slice HO_5.out
                            subst eo21
                            have p153 : 0 ≤ ((ji14) : Int) := of_decide_eq_true (by first | (with_reducible assumption) | assumption)
                            have q153 : (ji14) < (x5_1.length : Int) := of_decide_eq_true (by first | (with_reducible assumption) | assumption)
                            obtain ⟨ad153, e153, hx153_0⟩ := Kd.at_int (Kd.R_reads' HO_5.out).2.2 (ji14) p153 q153
                            cases e153
                            replace p153 := eq_true p153
                            replace q153 := eq_true q153
                            have p20 : 0 ≤ ((ji14) : Int) := of_decide_eq_true (by first | (with_reducible assumption) | assumption)
                            have q20 : ((ji14) : Int) < ((x5_1.length : Int) : Int) := of_decide_eq_true (by first | (with_reducible assumption) | assumption)
                            obtain ⟨go20, co20, eo20, gb20, gl20, cl20, HG20⟩ := Kd.R_form HO_5.out (by omega)
                            (first | cases eo20 | (injection eo20 with ea_ en_ ec_; (first | subst ea_ | (injection ea_ with ea_; subst ea_)); subst ec_; clear en_))
                            have GB20 := Aside0.mk gb20
                            have GG20 := Aside0.mk HG20
                            clear gb20 gl20 HG20
                            (first | simp only [add_plain] at hx153_0 | skip)
                            obtain ⟨hx20_0, hf20_0⟩ := Kd.R_celln 0 HO_5.out ((ji14) : Int) p20 q20
                            replace p20 := eq_true p20
                            replace q20 := eq_true q20
                            have HP22 := Kd.R_putg HO_5.out ((ji14) : Int) (Go.bits .or .u64 (rd x5_1 (ji14)) (ji19))
                            go_wp2_with (first | ((with_reducible refine gate_store (t := 36) (p := 38) rfl ?_); refine store_event (t := 36) (p := 38) (v := ?vo_w23) (w1 := (wc.setCell ⟨go20, ((ji14) : Int).toNat, none⟩ (.int .u64 (Go.bits .or .u64 (rd x5_1 (ji14)) (ji19))))) ?hg ?ho ?hn ?hr ?_; (case ho => rfl); (case hg => rfl); (case hn => rfl); (case hr => first | (go_simp; done) | (go_simp; rfl)); intro w23 hw; have hg : wc.grownBy w23 (some go20) := (by rw [hw]; exact HP22.2); have hp_ : Kd.R (Kd.int .u64) 36 w23 w.heap.size (fun _ => True) (.slice (some ⟨go20, 0, none⟩) x5_1.length co21) y154 := (by rw [hw, Ny154.out]; exact HP22.1); clear HP22; have n0_ := Aside0.mk (hp_); have n1_ := Aside0.mk ((by rw [hw]; exact below_set (HB.out) GB20.out : Below w.heap.size w w23)); clear HO_5; clear HB; have HO_5 := n0_; have HB := n1_; clear n0_ n1_; clear hg hw hp_))
                            go_roundg kj6
                            case measure => have := HK1.out; have := HJ6.out; omega
                            case rel => exact ⟨(y154), (wrap64 (x6_1 + 1)), (by first | rfl | (simp; done) | (simp [*]; done)), H', ⟨by have := HK1.out; have := HJ6.out; omega⟩, ⟨by (with_reducible repeat (first | apply Kd.R_alloc | apply Kd.R_drewN | apply Kd.R_drew)); exact HO_5.out⟩, ⟨by repeat (first | (with_reducible first | exact HB.out | apply below_alloc | apply pw_below_drewN | apply below_drew1) | exact HB.out)⟩⟩
                          · rw [if_neg c18] at H
                            exact absurd H (by simp)
                        · rw [if_neg c16] at H
                          exact absurd H (by simp)
                      · rw [if_neg c15] at H
                        exact absurd H (by simp)
                    · replace c13 := Bool.eq_false_iff.mpr c13
                      subst c13
                      have H1 : (tattingref5_Laid.l0 kj6 l0 a1 x5_1 (wrap64 (x6_1 + 1))) = some r := by rw [if_neg (show ¬ (false = true) by decide)] at H; exact H
                      clear H
                      have H := H1
                      clear H1
                      have H' := Aside0.mk H
                      clear H
                      have p152 : 0 ≤ (x6_1 : Int) := of_decide_eq_true (by first | (with_reducible assumption) | assumption)
                      have q152 : x6_1 < (l0.length : Int) := of_decide_eq_true (by first | (with_reducible assumption) | assumption)
                      obtain ⟨ad152, e152, hx152_0⟩ := Kd.at_bool HR0.out x6_1 p152 q152
                      (try rw [← Nbq12.out] at hx152_0)
                      cases e152
                      replace hx152_0 := (HB.out.cell (World.block_lt_of_cell? w _ hx152_0)).trans hx152_0
                      replace p152 := eq_true p152
                      replace q152 := eq_true q152
                      go_wp2
                      go_roundg kj6
                      case measure => have := HK1.out; have := HJ6.out; omega
                      case rel => exact ⟨(x5_1), (wrap64 (x6_1 + 1)), (by first | rfl | (simp; done) | (simp [*]; done)), H', ⟨by have := HK1.out; have := HJ6.out; omega⟩, ⟨by (with_reducible repeat (first | apply Kd.R_alloc | apply Kd.R_drewN | apply Kd.R_drew)); exact HO_5.out⟩, ⟨by repeat (first | (with_reducible first | exact HB.out | apply below_alloc | apply pw_below_drewN | apply below_drew1) | exact HB.out)⟩⟩
                  · rw [if_neg c11] at H
                    exact absurd H (by simp)
                · rw [if_neg c10] at H
                  exact absurd H (by simp)
              · replace c9 := Bool.eq_false_iff.mpr c9
                subst c9
                have H1 : (some x5_1) = some r := by rw [if_neg (show ¬ (false = true) by decide)] at H; exact H
                clear H
                have H := H1
                clear H1
                obtain rfl := Option.some.inj H
                go_wp2
                go_ret
                exact ⟨_, by first | rfl | (simp [errW_none, errW_some] <;> rfl) | (simp [*, errW_none, errW_some] <;> rfl), by (with_reducible repeat (first | apply Kd.R_alloc | apply Kd.R_drewN | apply Kd.R_drew)); exact HO_5.out, by repeat (first | (with_reducible first | exact HB.out | apply below_alloc | apply pw_below_drewN | apply below_drew1) | exact HB.out)⟩
    · rw [if_neg c4] at H
      exact absurd H (by simp)
  · rw [if_neg c3] at H
    exact absurd H (by simp)


/-! ### tattingref5_Width: function 38 -/
def tattingref5_Width.f (a0 : Int) : Option (Int) := if a0 < 0 then (some 0) else (if a0 > 1048576 then (some 1048576) else (some a0))
set_option maxHeartbeats 8000000 in
set_option maxRecDepth 100000 in
theorem tattingref5_Width.calls (a0 : Int) (r : Int) (w : World) (h : tattingref5_Width.f a0 = some r) :
    Calls Try.prog 38 #[.int .i64 a0] w fun e w' => e = .returned (.int .i64 r) ∧ Drawn0 w w' := by
  have H : (if a0 < 0 then (some 0) else (if a0 > 1048576 then (some 1048576) else (some a0))) = some r := h
  clear h
  by_cases c2 : a0 < 0
  · rw [if_pos c2] at H
    have c2b0 : decide (a0 < 0) = true := decide_eq_true c2
    clear c2
    obtain rfl := Option.some.inj H
    go_enter Try.func38, Try.ntmps38
    go_wp2
    go_ret
    exact ⟨by first | rfl | (simp; done) | (simp [*]; done), by repeat (first | exact Drawn0.refl _ | apply Drawn0.step)⟩
  · rw [if_neg c2] at H
    have c2b0 : decide (a0 < 0) = false := decide_eq_false c2
    clear c2
    by_cases c3 : a0 > 1048576
    · rw [if_pos c3] at H
      have c3b0 : decide (1048576 < a0) = true := decide_eq_true c3
      clear c3
      obtain rfl := Option.some.inj H
      go_enter Try.func38, Try.ntmps38
      go_wp2
      go_ret
      exact ⟨by first | rfl | (simp; done) | (simp [*]; done), by repeat (first | exact Drawn0.refl _ | apply Drawn0.step)⟩
    · rw [if_neg c3] at H
      have c3b0 : decide (1048576 < a0) = false := decide_eq_false c3
      clear c3
      obtain rfl := Option.some.inj H
      go_enter Try.func38, Try.ntmps38
      go_wp2
      go_ret
      exact ⟨by first | rfl | (simp; done) | (simp [*]; done), by repeat (first | exact Drawn0.refl _ | apply Drawn0.step)⟩


/-! ### tattingref5_Words: function 29 -/
def tattingref5_Words.f (a0 : Int) : Option (Int) := (tattingref5_Width.f a0).bind fun t155 => (some (wrap64 (Int.tdiv (wrap64 (t155 + 63)) 64)))
set_option maxHeartbeats 8000000 in
set_option maxRecDepth 100000 in
theorem tattingref5_Words.calls (a0 : Int) (r : Int) (w : World) (h : tattingref5_Words.f a0 = some r) :
    Calls Try.prog 29 #[.int .i64 a0] w fun e w' => e = .returned (.int .i64 r) ∧ Drawn0 w w' := by
  have H : ((tattingref5_Width.f a0).bind fun t155 => (some (wrap64 (Int.tdiv (wrap64 (t155 + 63)) 64)))) = some r := h
  clear h
  replace H := Option.bind_eq_some_iff.mp H
  obtain ⟨t155, A20, H⟩ := H
  replace H : (some (wrap64 (Int.tdiv (wrap64 (t155 + 63)) 64))) = some r := H
  have A2 := Aside0.mk A20
  clear A20
  obtain rfl := Option.some.inj H
  go_enter Try.func29, Try.ntmps29
  go_wp2_with (first | ((with_reducible refine gate_callee (f := 38) rfl ?_); refine goesL_ (some 4) rfl rfl Try.func38 (by kernel_rfl) rfl #[.int .i64 a0] rfl (by (try simp only [List.map_toArray, List.map_cons, List.map_nil]); first | done | rfl | (simp only [List.length_drop, List.length_take]; rfl)) ?_; (with_reducible refine (tattingref5_Width.calls a0 t155 _ A2.out).mono ?_); rintro e w' ⟨rfl, ⟨nd, rfl⟩⟩; refine ⟨_, rfl, ?_⟩))
  go_ret
  exact ⟨by first | rfl | (simp; done) | (simp [*]; done), by repeat (first | exact Drawn0.refl _ | apply Drawn0.step)⟩


end Go.Proofs.Ytkfgkefkmofdcaa.PL
