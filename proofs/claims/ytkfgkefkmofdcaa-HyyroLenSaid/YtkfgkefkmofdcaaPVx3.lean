-- Written by a program of this repo (wip/pprint.py) over the kit's print; it is no print of the kit's own.
import Derived.Test.YtkfgkefkmofdcaaPVx0
namespace Go.Proofs.Ytkfgkefkmofdcaa.PV
open Go.Proofs.Ytkfgkefkmofdcaa.Man
open Go.RowKit Go.Proofs.YtkfgkefkmofdcaaW.PrintWords Go.Proofs.YtkfgkefkmofdcaaW.PrintLast Go.Proofs.YtkfgkefkmofdcaaW.PrintMore
attribute [local go_sem] max2_int min2_int max_two min_two max_three min_three max_four min_four   -- for this text's walks alone
set_option linter.unusedVariables false
set_option linter.unusedSimpArgs false

/-! ### tattingref7_Behind: function 31 -/
mutual
def tattingref7_Behind.l0 : Nat → List Int → List Int → List (List Int) → Int → Option ((List (List Int)))
  | 0, _, _, _, _ => none
  | k + 1, x0, x1, x5, x6 => if x6 ≥ 0 then (if 0 ≤ (wrap64 ((x1.length : Int) + 1)) then (if (wrap64 ((x1.length : Int) + 1) : Int).toNat ≤ 35184372088832 then (if 0 ≤ x6 then (if x6 < (x5.length : Int) then (tattingref7_Behind.l1 k x0 x1 (x5.set (x6 : Int).toNat (List.replicate (wrap64 ((x1.length : Int) + 1) : Int).toNat 0)) x6 (wrap64 ((x1.length : Int) - 1))) else (none)) else (none)) else (none)) else (none)) else (some x5)
def tattingref7_Behind.l1 : Nat → List Int → List Int → List (List Int) → Int → Int → Option ((List (List Int)))
  | 0, _, _, _, _, _ => none
  | k + 1, x0, x1, x5, x6, x7 => if x6 < (x0.length : Int) then (tattingref7_Behind.j2 k x0 x1 x5 x6 x7 (decide (x7 ≥ 0))) else (tattingref7_Behind.j2 k x0 x1 x5 x6 x7 false)
def tattingref7_Behind.j2 : Nat → List Int → List Int → List (List Int) → Int → Int → Bool → Option ((List (List Int)))
  | 0, _, _, _, _, _, _ => none
  | k + 1, x0, x1, x5, x6, x7, x35 => if x35 = true then (if 0 ≤ x6 then (if x6 < (x0.length : Int) then (if 0 ≤ x7 then (if x7 < (x1.length : Int) then (if (rd x0 x6) = (rd x1 x7) then (if x6 < (x5.length : Int) then (if 0 ≤ (wrap64 (x6 + 1)) then (if (wrap64 (x6 + 1)) < (x5.length : Int) then (if 0 ≤ (wrap64 (x7 + 1)) then (if (wrap64 (x7 + 1)) < ((rd_L2 x5 (wrap64 (x6 + 1))).length : Int) then (if x7 < ((rd_L2 x5 x6).length : Int) then (tattingref7_Behind.l1 k x0 x1 (x5.set (x6 : Int).toNat ((rd_L2 x5 x6).set (x7 : Int).toNat (wrap64 ((rd (rd_L2 x5 (wrap64 (x6 + 1))) (wrap64 (x7 + 1))) + 1)))) x6 (wrap64 (x7 - 1))) else (none)) else (none)) else (none)) else (none)) else (none)) else (none)) else (if x6 < (x5.length : Int) then (if 0 ≤ (wrap64 (x6 + 1)) then (if (wrap64 (x6 + 1)) < (x5.length : Int) then (if x7 < ((rd_L2 x5 (wrap64 (x6 + 1))).length : Int) then (if 0 ≤ (wrap64 (x7 + 1)) then (if (wrap64 (x7 + 1)) < ((rd_L2 x5 x6).length : Int) then (if x7 < ((rd_L2 x5 x6).length : Int) then (tattingref7_Behind.l1 k x0 x1 (x5.set (x6 : Int).toNat ((rd_L2 x5 x6).set (x7 : Int).toNat (mx (rd (rd_L2 x5 (wrap64 (x6 + 1))) x7) (rd (rd_L2 x5 x6) (wrap64 (x7 + 1)))))) x6 (wrap64 (x7 - 1))) else (none)) else (none)) else (none)) else (none)) else (none)) else (none)) else (none))) else (none)) else (none)) else (none)) else (none)) else (tattingref7_Behind.l0 k x0 x1 x5 (wrap64 (x6 - 1)))
end
def tattingref7_Behind.f (k : Nat) (l0 : List Int) (l1 : List Int) : Option ((List (List Int))) := if 0 ≤ (wrap64 ((l0.length : Int) + 1)) then (if (wrap64 ((l0.length : Int) + 1) : Int).toNat ≤ 11728124029610 then (tattingref7_Behind.l0 k l0 l1 (List.replicate (wrap64 ((l0.length : Int) + 1) : Int).toNat []) (l0.length : Int)) else (none)) else (none)
theorem tattingref7_Behind.mono_l : ∀ k, (∀ y0 y1 y2 y3, LeO (tattingref7_Behind.l0 k y0 y1 y2 y3) (tattingref7_Behind.l0 (k + 1) y0 y1 y2 y3)) ∧ (∀ y0 y1 y2 y3 y4, LeO (tattingref7_Behind.l1 k y0 y1 y2 y3 y4) (tattingref7_Behind.l1 (k + 1) y0 y1 y2 y3 y4)) ∧ (∀ y0 y1 y2 y3 y4 y5, LeO (tattingref7_Behind.j2 k y0 y1 y2 y3 y4 y5) (tattingref7_Behind.j2 (k + 1) y0 y1 y2 y3 y4 y5))
  | 0 => ⟨fun _ _ _ _ r h => by simp [tattingref7_Behind.l0] at h, fun _ _ _ _ _ r h => by simp [tattingref7_Behind.l1] at h, fun _ _ _ _ _ _ r h => by simp [tattingref7_Behind.j2] at h⟩
  | k + 1 => by
    obtain ⟨ih0, ih1, ih2⟩ := tattingref7_Behind.mono_l k
    refine ⟨?_, ?_, ?_⟩
    · intro y0 y1 y2 y3
      unfold tattingref7_Behind.l0
      repeat' first
      | (with_reducible exact ih0 _ _ _ _)
      | (with_reducible exact ih1 _ _ _ _ _)
      | (with_reducible exact ih2 _ _ _ _ _ _)
      | (with_reducible exact LeO.refl _)
      | (with_reducible exact LeO.none _)
      | (with_reducible refine LeO.ite ?_ ?_)
      | (with_reducible refine LeO.bind ?_ (fun _ => ?_))
      | exact ih0 _ _ _ _
      | exact ih1 _ _ _ _ _
      | exact ih2 _ _ _ _ _ _
      | exact LeO.none _
      | refine LeO.ite ?_ ?_
      | refine LeO.bind ?_ (fun _ => ?_)
    · intro y0 y1 y2 y3 y4
      unfold tattingref7_Behind.l1
      repeat' first
      | (with_reducible exact ih0 _ _ _ _)
      | (with_reducible exact ih1 _ _ _ _ _)
      | (with_reducible exact ih2 _ _ _ _ _ _)
      | (with_reducible exact LeO.refl _)
      | (with_reducible exact LeO.none _)
      | (with_reducible refine LeO.ite ?_ ?_)
      | (with_reducible refine LeO.bind ?_ (fun _ => ?_))
      | exact ih0 _ _ _ _
      | exact ih1 _ _ _ _ _
      | exact ih2 _ _ _ _ _ _
      | exact LeO.none _
      | refine LeO.ite ?_ ?_
      | refine LeO.bind ?_ (fun _ => ?_)
    · intro y0 y1 y2 y3 y4 y5
      unfold tattingref7_Behind.j2
      repeat' first
      | (with_reducible exact ih0 _ _ _ _)
      | (with_reducible exact ih1 _ _ _ _ _)
      | (with_reducible exact ih2 _ _ _ _ _ _)
      | (with_reducible exact LeO.refl _)
      | (with_reducible exact LeO.none _)
      | (with_reducible refine LeO.ite ?_ ?_)
      | (with_reducible refine LeO.bind ?_ (fun _ => ?_))
      | exact ih0 _ _ _ _
      | exact ih1 _ _ _ _ _
      | exact ih2 _ _ _ _ _ _
      | exact LeO.none _
      | refine LeO.ite ?_ ?_
      | refine LeO.bind ?_ (fun _ => ?_)
theorem tattingref7_Behind.mono : ∀ a0 a1 k, LeO (tattingref7_Behind.f k a0 a1) (tattingref7_Behind.f (k + 1) a0 a1) := by
  intro a0 a1 k
  obtain ⟨ih0, ih1, ih2⟩ := tattingref7_Behind.mono_l k
  unfold tattingref7_Behind.f
  repeat' first
      | (with_reducible exact ih0 _ _ _ _)
      | (with_reducible exact ih1 _ _ _ _ _)
      | (with_reducible exact ih2 _ _ _ _ _ _)
      | (with_reducible exact LeO.refl _)
      | (with_reducible exact LeO.none _)
      | (with_reducible refine LeO.ite ?_ ?_)
      | (with_reducible refine LeO.bind ?_ (fun _ => ?_))
      | exact ih0 _ _ _ _
      | exact ih1 _ _ _ _ _
      | exact ih2 _ _ _ _ _ _
      | exact LeO.none _
      | refine LeO.ite ?_ ?_
      | refine LeO.bind ?_ (fun _ => ?_)
def tattingref7_Behind.T9 : Bool × List (List Nat × List Nat) := (true, [([], []), ([], []), ([0, 1], [0, 1]), ([2], [2]), ([], []), ([], []), ([4, 5], [4, 5]), ([6], [6]), ([3, 7], [3, 7])])
def tattingref7_Behind.B9 : List Nat := [0, 0, 3, 7, 0, 0, 48, 112, 255]
theorem tattingref7_Behind.tab9 : rtab .any (opsOf Try.f31 9) = tattingref7_Behind.T9 := by kernel_rfl
theorem tattingref7_Behind.bits9 : waitsOk tattingref7_Behind.T9.2 tattingref7_Behind.B9 = true := by kernel_rfl
def tattingref7_Behind.T10 : Bool × List (List Nat × List Nat) := (true, [([], []), ([], []), ([0, 1], [0, 1]), ([2], [2]), ([], []), ([], []), ([], []), ([6], [6]), ([5, 7], [5, 7]), ([8], [8]), ([], []), ([10], [10]), ([9, 11], [9, 11]), ([12], [12]), ([13], [13]), ([3, 4, 0, 1, 2, 3, 4, 5, 6, 7, 8, 9, 10, 11, 12, 13, 14], [3, 4]), ([15, 14, 0, 1, 2, 3, 4, 5, 6, 7, 8, 9, 10, 11, 12, 13, 14], [14, 15])])
def tattingref7_Behind.B10 : List Nat := [0, 0, 3, 7, 0, 0, 0, 64, 224, 480, 0, 1024, 4064, 8160, 16352, 32767, 65535]
theorem tattingref7_Behind.tab10 : rtab .any (opsOf Try.f31 10) = tattingref7_Behind.T10 := by kernel_rfl
theorem tattingref7_Behind.bits10 : waitsOk tattingref7_Behind.T10.2 tattingref7_Behind.B10 = true := by kernel_rfl
def tattingref7_Behind.T11 : Bool × List (List Nat × List Nat) := (true, [([], []), ([], []), ([0, 1], [0, 1]), ([2], [2]), ([], []), ([], []), ([], []), ([6], [6]), ([5, 7], [5, 7]), ([8], [8]), ([], []), ([9, 10], [9, 10]), ([11], [11]), ([], []), ([], []), ([13, 14], [13, 14]), ([15], [15]), ([], []), ([17], [17]), ([16, 18], [16, 18]), ([19], [19]), ([12, 20], [12, 20]), ([3, 4, 0, 1, 2, 3, 4, 5, 6, 7, 8, 9, 10, 11, 12, 13, 14, 15, 16, 17, 18, 19, 20, 21], [3, 4]), ([22, 21, 0, 1, 2, 3, 4, 5, 6, 7, 8, 9, 10, 11, 12, 13, 14, 15, 16, 17, 18, 19, 20, 21], [21, 22])])
def tattingref7_Behind.B11 : List Nat := [0, 0, 3, 7, 0, 0, 0, 64, 224, 480, 0, 2016, 4064, 0, 0, 24576, 57344, 0, 131072, 516096, 1040384, 2097120, 4194303, 8388607]
theorem tattingref7_Behind.tab11 : rtab .any (opsOf Try.f31 11) = tattingref7_Behind.T11 := by kernel_rfl
theorem tattingref7_Behind.bits11 : waitsOk tattingref7_Behind.T11.2 tattingref7_Behind.B11 = true := by kernel_rfl
set_option maxHeartbeats 8000000 in
set_option maxRecDepth 100000 in
theorem tattingref7_Behind.calls (k : Nat) (A0 : Option Addr) (c0 : Nat) (l0 : List Int) (A1 : Option Addr) (c1 : Nat) (l1 : List Int) (r : List (List Int)) (w : World) (hr0 : Kd.C (Kd.int .i64) w A0 l0.length l0) (hc0 : l0.length ≤ c0) (hr1 : Kd.C (Kd.int .i64) w A1 l1.length l1) (hc1 : l1.length ≤ c1) (h : tattingref7_Behind.f k l0 l1 = some r) :
    Calls Try.prog 31 #[.slice A0 l0.length c0, .slice A1 l1.length c1] w fun e w' => ∃ v0_ : Value, e = .returned (v0_) ∧ Kd.S (Kd.slice 3 (Kd.int .i64)) 22 w' w.heap.size (fun _ => True) v0_ r ∧ Below w.heap.size w w' := by
  have HR0 := Aside0.mk hr0
  have HC0 := Aside0.mk hc0
  clear hr0 hc0
  have HR1 := Aside0.mk hr1
  have HC1 := Aside0.mk hc1
  clear hr1 hc1
  have HB := Aside0.mk (Below.refl w.heap.size w)
  have H : (if 0 ≤ (wrap64 ((l0.length : Int) + 1)) then (if (wrap64 ((l0.length : Int) + 1) : Int).toNat ≤ 11728124029610 then (tattingref7_Behind.l0 k l0 l1 (List.replicate (wrap64 ((l0.length : Int) + 1) : Int).toNat []) (l0.length : Int)) else (none)) else (none)) = some r := h
  clear h
  obtain ⟨ji3, hji3⟩ : ∃ j_ : Int, (wrap64 ((l0.length : Int) + 1)) = j_ := ⟨_, rfl⟩
  replace H : (if 0 ≤ (ji3) then (if (ji3 : Int).toNat ≤ 11728124029610 then (tattingref7_Behind.l0 k l0 l1 (List.replicate (ji3 : Int).toNat []) (l0.length : Int)) else (none)) else (none)) = some r := by first | (rw [hji3] at H; exact H) | (simp only [hji3] at H ⊢; exact H)
  have hji3w : (IntKind.i64.wrap ((l0.length : Int) + 1)) = ji3 := (i64_w _).trans hji3
  by_cases c4 : 0 ≤ (ji3)
  · rw [if_pos c4] at H
    have c4b0 := eq_true c4
    have c4b1 : decide (0 ≤ (ji3)) = true := decide_eq_true c4
    clear c4
    by_cases c5 : (ji3 : Int).toNat ≤ 11728124029610
    · rw [if_pos c5] at H
      have c5b0 := eq_true c5
      have c5b1 : decide ((ji3 : Int).toNat ≤ 11728124029610) = true := decide_eq_true c5
      clear c5
      obtain ⟨y199, hy199⟩ : ∃ y_ : List (List Int), y_ = (List.replicate (ji3 : Int).toNat []) := ⟨_, rfl⟩
      replace H : (tattingref7_Behind.l0 k l0 l1 y199 (l0.length : Int)) = some r := by first | (rw [hy199]; with_reducible exact H) | (have H2_ := (Option.bind_some _ _).symm.trans H; rw [hy199]; with_reducible exact H2_) | (have H2_ := (Option.bind_some _ _).symm.trans H; with_reducible exact H2_) | with_reducible exact H | (rw [hy199]; exact H) | exact H
      have Ny199 := Aside0.mk hy199
      clear hy199
      have H' := Aside0.mk H
      clear H
      go_enter Try.func31, Try.ntmps31
      go_wp2_with (first | ((with_reducible refine gate_dst (N := 11) rfl ?_); refine Kd.S_make (Kd.slice 3 (Kd.int .i64)) _ 22 rfl (N := 11) rfl 41 _ _ rfl ji3 rfl rfl Try.underlying41 (.slice none 0 0) 24 info22 rfl (by decide) (by omega) [] (ok := fun _ => True) (okp := fun _ => True) ⟨_, rfl, Kd.R_nil _ _ _ _ _⟩ (fun _ hk => hk) trivial (of_decide_eq_true (by first | (with_reducible assumption) | assumption)) (Nat.le_trans (Nat.mul_le_mul_right _ (of_decide_eq_true (by first | (with_reducible assumption) | assumption) : ji3.toNat ≤ 11728124029610)) (by omega)) (Below.refl _ _) (Nat.le_refl _) ?_; intro v200 w6 ho7 hb hg_ hnew_; clear hg_ hnew_; (first | rw [← Ny199.out] at ho7 | (simp only [Int.reduceToNat] at ho7; rw [← Ny199.out] at ho7)); have n0_ := Aside0.mk (Kd.S_lower ho7 (below_size (by repeat (first | (with_reducible first | exact HB.out | apply below_alloc | apply pw_below_drewN | apply below_drew1) | exact HB.out)))); have n1_ := Aside0.mk (below_step (by repeat (first | (with_reducible first | exact HB.out | apply below_alloc | apply pw_below_drewN | apply below_drew1) | exact HB.out)) hb); clear HB; have HO201 := n0_; have HB := n1_; clear n0_ n1_; clear hb ho7))
      go_loopg [6] k (fun kq v6 w' => ∃ (x5_1 : List (List Int)) (x6_1 : Int), v6 = .int .i64 x6_1 ∧ Aside0 (tattingref7_Behind.l0 kq l0 l1 x5_1 x6_1 = some r) ∧ Aside0 (kq ≤ k) ∧ Aside0 (Kd.S (Kd.slice 3 (Kd.int .i64)) 22 w' w.heap.size (fun _ => True) v200 x5_1) ∧ Aside0 (Below w.heap.size w w'))
      case atStart => exact ⟨(y199), ((l0.length : Int)), (by first | rfl | (simp; done) | (simp [*]; done)), H', ⟨Nat.le_refl _⟩, ⟨by (with_reducible repeat (first | apply Kd.S_alloc | apply Kd.S_drewN | apply Kd.S_drew)); exact HO201.out⟩, ⟨by repeat (first | (with_reducible first | exact HB.out | apply below_alloc | apply pw_below_drewN | apply below_drew1) | exact HB.out)⟩⟩
      case round =>
        clear H'
        try clear c1
        try clear p2
        try clear c3
        try clear c4
        try clear c4b0
        try clear c4b1
        try clear c5
        try clear c5b0
        try clear c5b1
        try clear p6
        obtain ⟨x5_1, x6_1, rfl, HA, HK1, HO_5, HB⟩ := hrel
        cases gk with
        | zero => exact absurd HA.out (by simp [tattingref7_Behind.l0])
        | succ k1 =>
          have H := HA.out
          clear HA
          simp only [tattingref7_Behind.l0] at H
          by_cases c8 : x6_1 ≥ 0
          · rw [if_pos c8] at H
            have c8b0 : decide (0 ≤ x6_1) = true := decide_eq_true c8
            clear c8
            obtain ⟨ji9, hji9⟩ : ∃ j_ : Int, (wrap64 ((l1.length : Int) + 1)) = j_ := ⟨_, rfl⟩
            replace H : (if 0 ≤ (ji9) then (if (ji9 : Int).toNat ≤ 35184372088832 then (if 0 ≤ x6_1 then (if x6_1 < (x5_1.length : Int) then (tattingref7_Behind.l1 k1 l0 l1 (x5_1.set (x6_1 : Int).toNat (List.replicate (ji9 : Int).toNat 0)) x6_1 (wrap64 ((l1.length : Int) - 1))) else (none)) else (none)) else (none)) else (none)) = some r := by first | (rw [hji9] at H; exact H) | (simp only [hji9] at H ⊢; exact H)
            have hji9w : (IntKind.i64.wrap ((l1.length : Int) + 1)) = ji9 := (i64_w _).trans hji9
            by_cases c10 : 0 ≤ (ji9)
            · rw [if_pos c10] at H
              have c10b0 := eq_true c10
              have c10b1 : decide (0 ≤ (ji9)) = true := decide_eq_true c10
              clear c10
              by_cases c11 : (ji9 : Int).toNat ≤ 35184372088832
              · rw [if_pos c11] at H
                have c11b0 := eq_true c11
                have c11b1 : decide ((ji9 : Int).toNat ≤ 35184372088832) = true := decide_eq_true c11
                clear c11
                obtain ⟨y202, hy202⟩ : ∃ y_ : List Int, y_ = (List.replicate (ji9 : Int).toNat 0) := ⟨_, rfl⟩
                replace H : (if 0 ≤ x6_1 then (if x6_1 < (x5_1.length : Int) then (tattingref7_Behind.l1 k1 l0 l1 (x5_1.set (x6_1 : Int).toNat y202) x6_1 (wrap64 ((l1.length : Int) - 1))) else (none)) else (none)) = some r := by first | (rw [hy202]; with_reducible exact H) | (have H2_ := (Option.bind_some _ _).symm.trans H; rw [hy202]; with_reducible exact H2_) | (have H2_ := (Option.bind_some _ _).symm.trans H; with_reducible exact H2_) | with_reducible exact H | (rw [hy202]; exact H) | exact H
                have Ny202 := Aside0.mk hy202
                clear hy202
                by_cases c12 : 0 ≤ x6_1
                · rw [if_pos c12] at H
                  have c12b0 : decide (0 ≤ x6_1) = true := decide_eq_true c12
                  clear c12
                  by_cases c13 : x6_1 < (x5_1.length : Int)
                  · rw [if_pos c13] at H
                    have c13b0 : decide (x6_1 < (x5_1.length : Int)) = true := decide_eq_true c13
                    clear c13
                    obtain ⟨y205, hy205⟩ : ∃ y_ : List (List Int), y_ = (x5_1.set (x6_1 : Int).toNat y202) := ⟨_, rfl⟩
                    replace H : (tattingref7_Behind.l1 k1 l0 l1 y205 x6_1 (wrap64 ((l1.length : Int) - 1))) = some r := by first | (rw [hy205]; with_reducible exact H) | (have H2_ := (Option.bind_some _ _).symm.trans H; rw [hy205]; with_reducible exact H2_) | (have H2_ := (Option.bind_some _ _).symm.trans H; with_reducible exact H2_) | with_reducible exact H | (rw [hy205]; exact H) | exact H
                    have Ny205 := Aside0.mk hy205
                    clear hy205
                    have H' := Aside0.mk H
                    clear H
                    go_wp2_with (first | ((with_reducible refine gate_dst (N := 23) rfl ?_); refine Kd.R_make (Kd.int .i64) _ 3 rfl (N := 23) rfl 22 _ _ rfl ji9 rfl rfl Try.underlying22 (.int .i64 0) 8 info3 rfl (by decide) (by omega) 0 (ok := fun _ => True) (okp := fun _ => True) rfl (fun _ hk => hk) trivial (of_decide_eq_true (by first | (with_reducible assumption) | assumption)) (Nat.le_trans (Nat.mul_le_mul_right _ (of_decide_eq_true (by first | (with_reducible assumption) | assumption) : ji9.toNat ≤ 35184372088832)) (by omega)) (Below.refl _ _) (Nat.le_refl _) ?_; intro v203 w15 ho16 hb hg_ hnew_; clear hg_ hnew_; (first | rw [← Ny202.out] at ho16 | (simp only [Int.reduceToNat] at ho16; rw [← Ny202.out] at ho16)); have n0_ := Aside0.mk (Kd.S_elder' (by (with_reducible repeat (first | apply Kd.S_alloc | apply Kd.S_drewN | apply Kd.S_drew)); exact HO_5.out) (Kd.R_base ho16) hb); have n1_ := Aside0.mk (Kd.R_lower ho16 (below_size (by repeat (first | (with_reducible first | exact HB.out | apply below_alloc | apply pw_below_drewN | apply below_drew1) | exact HB.out)))); have n2_ := Aside0.mk (below_step (by repeat (first | (with_reducible first | exact HB.out | apply below_alloc | apply pw_below_drewN | apply below_drew1) | exact HB.out)) hb); clear HO_5; clear HB; have HO_5 := n0_; have HO204 := n1_; have HB := n2_; clear n0_ n1_ n2_; clear hb ho16; have p14 : 0 ≤ (x6_1 : Int) := of_decide_eq_true (by first | (with_reducible assumption) | assumption); have q14 : (x6_1 : Int) < ((x5_1.length : Int) : Int) := of_decide_eq_true (by first | (with_reducible assumption) | assumption); obtain ⟨go14, co14, eo14, gb14, gl14, cl14, HG14⟩ := Kd.S_form HO_5.out (by omega); (first | cases eo14 | (injection eo14 with ea_ en_ ec_; (first | subst ea_ | (injection ea_ with ea_; subst ea_)); subst ec_; clear en_)); have GB14 := Aside0.mk gb14; have GG14 := Aside0.mk HG14; clear gb14 gl14 HG14; obtain ⟨_, ce14, hcl14, hM14, hcc14, hfr14, _, _⟩ := Kd.S_elem HO_5.out [] (x6_1 : Int) p14 q14; obtain ⟨ve14_0, rfl, ge14_0⟩ := hM14; have hx14_0 := hcc14 0 _ rfl; have hf14_0 := hfr14 0; (try simp only [show ((Kd.slice 3 (Kd.int .i64))).sz = 1 from rfl, Nat.mul_one, Nat.add_zero] at hx14_0); (try simp only [show ((Kd.slice 3 (Kd.int .i64))).sz = 1 from rfl, Nat.mul_one, Nat.add_zero] at hf14_0); clear hcl14 hcc14 hfr14; (try clear hM14); replace p14 := eq_true p14; replace q14 := eq_true q14; have n_ := Aside0.mk (Kd.S_mono (ok' := (fun k_ => some k_ ≠ (v203 : Value).ownBlock)) HO_5.out (fun k_ hk => hk.2)); clear HO_5; have HO_5 := n_; clear n_; have HX17 := Aside0.mk (show Kd.S (Kd.slice 3 (Kd.int .i64)) 22 w15 w.heap.size (fun k_ => ((fun _ => True)) k_ ∧ ¬ ((fun k_ => some k_ = (v203 : Value).ownBlock)) k_) (.slice (some ⟨go14, 0, none⟩) x5_1.length co14) x5_1 from (by (with_reducible repeat (first | apply Kd.S_alloc | apply Kd.S_drewN | apply Kd.S_drew)); exact Kd.S_mono HO_5.out (fun k_ hk => ⟨trivial, fun e_ => hk e_⟩))); obtain ⟨oki17, ce17, hcl17, hM17, hcc17, hfr17, hoki17, hH17⟩ := Kd.S_elem HX17.out [] (x6_1 : Int) (of_decide_eq_true (by first | (with_reducible assumption) | assumption)) (by have h_ : (x6_1 : Int) < ((x5_1.length : Int) : Int) := of_decide_eq_true (by first | (with_reducible assumption) | assumption); first | exact h_ | (have e_ := (Kd.S_reads' HO_5.out).1; omega) | simpa using h_); obtain ⟨ve17_0, rfl, ge17_0⟩ := hM17; have HP17 := Kd.S_seg hH17 (of_decide_eq_true (by first | (with_reducible assumption) | assumption)) (by have h_ : (x6_1 : Int) < ((x5_1.length : Int) : Int) := of_decide_eq_true (by first | (with_reducible assumption) | assumption); first | exact h_ | (have e_ := (Kd.S_reads' HO_5.out).1; omega) | simpa using h_) (seg := [v203]) (j := 0) (show 1 ≤ 1 from by decide) (x' := y202) (Kd.M_row (Kd.R_mono (Kd.R_tight rfl (Kd.R_mono (ok' := fun k_ => ((fun _ => True)) k_ ∧ k_ ≠ go14) (Kd.R_apart' (HO204.out) (Kd.S_typed HO_5.out) (by decide)) (fun k_ hk => ⟨trivial, fun e_ => (hk.2) (by rw [e_]; rfl)⟩))) (fun _ h_ => Or.inr (h_)))) (fun _ hk => hk) (fun k_ hk_ => ((Kd.R_mono (ok' := fun k_ => ((fun _ => True)) k_ ∧ k_ ≠ go14) (Kd.R_apart' (HO204.out) (Kd.S_typed HO_5.out) (by decide)) (fun k_ hk => ⟨trivial, fun e_ => (hk.2) (by rw [e_]; rfl)⟩))).1 k_ hk_.symm); have hx17_0 := hcc17 0 _ rfl; (try simp only [show ((Kd.slice 3 (Kd.int .i64))).sz = 1 from rfl, Nat.mul_one, Nat.add_zero] at hx17_0); have hf17_0 := hfr17 0; (try simp only [show ((Kd.slice 3 (Kd.int .i64))).sz = 1 from rfl, Nat.mul_one, Nat.add_zero] at hf17_0); clear hcl17 hcc17 hfr17 hoki17 hH17; (try clear hM17); (try simp only [show ((Kd.slice 3 (Kd.int .i64))).sz = 1 from rfl, Nat.mul_one, Nat.add_zero] at HP17)) | ((with_reducible refine gate_store (t := 22) (p := 24) rfl ?_); refine store_event (t := 22) (p := 24) (v := ?vo_w18) (w1 := (w15.setCell ⟨go14, (x6_1 : Int).toNat, none⟩ (v203))) ?hg ?ho ?hn ?hr ?_; (case ho => rfl); (case hg => rfl); (case hn => rfl); (case hr => first | (go_simp; done) | (go_simp; rfl) | (obtain ⟨Az_, cz_, ez_⟩ := Kd.R_slice HO204.out; rw [ez_]; first | (go_simp; done) | (go_simp; rfl))); intro w18 hw; have hg : w15.grownBy w18 (some go14) := (by rw [hw]; exact HP17.2); have hp_ : Kd.S (Kd.slice 3 (Kd.int .i64)) 22 w18 w.heap.size (fun _ => True) (.slice (some ⟨go14, 0, none⟩) x5_1.length co14) y205 := (by rw [hw, Ny205.out]; exact HP17.1); clear HP17; have n0_ := Aside0.mk (hp_); have n1_ := Aside0.mk ((by rw [hw]; exact below_set (HB.out) GB14.out : Below w.heap.size w w18)); clear HO_5; clear HB; clear HO204; have HO_5 := n0_; have HB := n1_; clear n0_ n1_; clear hg hw hp_))
                    go_loopg [7] k1 (fun kq v7 w' => ∃ (x5_2 : List (List Int)) (x7_2 : Int), v7 = .int .i64 x7_2 ∧ Aside0 (tattingref7_Behind.l1 kq l0 l1 x5_2 x6_1 x7_2 = some r) ∧ Aside0 (kq ≤ k1) ∧ Aside0 (Kd.S (Kd.slice 3 (Kd.int .i64)) 22 w' w.heap.size (fun _ => True) (.slice (some ⟨go14, 0, none⟩) x5_1.length co14) x5_2) ∧ Aside0 (Below w.heap.size w w'))
                    case atStart => exact ⟨(y205), (wrap64 ((l1.length : Int) - 1)), (by first | rfl | (simp; done) | (simp [*]; done)), H', ⟨Nat.le_refl _⟩, ⟨by (with_reducible repeat (first | apply Kd.S_alloc | apply Kd.S_drewN | apply Kd.S_drew)); exact HO_5.out⟩, ⟨by repeat (first | (with_reducible first | exact HB.out | apply below_alloc | apply pw_below_drewN | apply below_drew1) | exact HB.out)⟩⟩
                    case round =>
                      clear H'
                      try clear c1
                      try clear p1
                      try clear q1
                      try clear hx1
                      try clear p2
                      try clear c3
                      try clear c4
                      try clear c4b0
                      try clear c4b1
                      try clear c5
                      try clear c5b0
                      try clear c5b1
                      try clear p6
                      try clear c8
                      try clear c8b0
                      try clear c10
                      try clear c10b0
                      try clear c10b1
                      try clear c11
                      try clear c11b0
                      try clear c11b1
                      try clear c12
                      try clear c12b0
                      try clear c13
                      try clear c13b0
                      try clear c14
                      try clear p14
                      try clear q14
                      try clear hx14
                      try clear hf14
                      try clear c17
                      try clear hx17
                      try clear hf17
                      try clear hx14_0
                      try clear hx17_0
                      try clear p14
                      try clear p2
                      try clear p6
                      try clear q14
                      obtain ⟨x5_2, x7_2, rfl, HA, HK2, HO_5, HB⟩ := hrel
                      have hl5_2 := (Kd.S_reads' HO_5.out).1
                      rw [hl5_2] at HO_5
                      (try simp only [hl5_2])
                      cases gk with
                      | zero => exact absurd HA.out (by simp [tattingref7_Behind.l1])
                      | succ k2 =>
                        have H := HA.out
                        clear HA
                        simp only [tattingref7_Behind.l1] at H
                        have HC19 := Aside0.mk H
                        clear H
                        go_upto_region 7 with (fail)
                        go_cut [35] (fun v35 wc => ∃ (kq : Nat) (x35_18 : Bool), v35 = .bool x35_18 ∧ Aside0 (tattingref7_Behind.j2 kq l0 l1 x5_2 x6_1 x7_2 x35_18 = some r) ∧ Aside0 (kq ≤ k2) ∧ Aside0 (Kd.S (Kd.slice 3 (Kd.int .i64)) 22 wc w.heap.size (fun _ => True) (.slice (some ⟨go14, 0, none⟩) x5_2.length co14) x5_2) ∧ Aside0 (Below w.heap.size w wc))
                        case first =>
                          have H := HC19.out
                          clear HC19
                          by_cases c20 : x6_1 < (l0.length : Int)
                          · rw [if_pos c20] at H
                            have c20b0 : decide (x6_1 < (l0.length : Int)) = true := decide_eq_true c20
                            clear c20
                            (first | rw [c20b0] | (simp only [i64_w, i32_w]; rw [c20b0]) | skip)
                            have H' := Aside0.mk H
                            clear H
                            go_wp2
                            go_meet
                            case rel => exact ⟨_, (decide (x7_2 ≥ 0)), (by first | rfl | (simp; done) | (simp [*]; done)), H', ⟨by have := HK1.out; have := HK2.out; first | omega | exact Nat.le_refl _⟩, ⟨by (try simp only [hl5_2]); (with_reducible repeat (first | apply Kd.S_alloc | apply Kd.S_drewN | apply Kd.S_drew)); exact HO_5.out⟩, ⟨by repeat (first | (with_reducible first | exact HB.out | apply below_alloc | apply pw_below_drewN | apply below_drew1) | exact HB.out)⟩⟩
                          · rw [if_neg c20] at H
                            have c20b0 : decide (x6_1 < (l0.length : Int)) = false := decide_eq_false c20
                            clear c20
                            (first | rw [c20b0] | (simp only [i64_w, i32_w]; rw [c20b0]) | skip)
                            have H' := Aside0.mk H
                            clear H
                            go_wp2
                            go_meet
                            case rel => exact ⟨_, (false), (by first | rfl | (simp; done) | (simp [*]; done)), H', ⟨by have := HK1.out; have := HK2.out; first | omega | exact Nat.le_refl _⟩, ⟨by (try simp only [hl5_2]); (with_reducible repeat (first | apply Kd.S_alloc | apply Kd.S_drewN | apply Kd.S_drew)); exact HO_5.out⟩, ⟨by repeat (first | (with_reducible first | exact HB.out | apply below_alloc | apply pw_below_drewN | apply below_drew1) | exact HB.out)⟩⟩
                        case rest =>
                          clear HC19
                          try clear c1
                          try clear p1
                          try clear q1
                          try clear hx1
                          try clear c2
                          try clear p2
                          try clear c3
                          try clear c4
                          try clear c4b0
                          try clear c4b1
                          try clear c5
                          try clear c5b0
                          try clear c5b1
                          try clear p6
                          try clear c8
                          try clear c8b0
                          try clear c10
                          try clear c10b0
                          try clear c10b1
                          try clear c11
                          try clear c11b0
                          try clear c11b1
                          try clear c12
                          try clear c12b0
                          try clear c13
                          try clear c13b0
                          try clear c14
                          try clear p14
                          try clear q14
                          try clear hx14
                          try clear hf14
                          try clear c17
                          try clear hx17
                          try clear hf17
                          try clear c20
                          try clear c20b0
                          try clear hx14_0
                          try clear hx17_0
                          try clear p1
                          try clear p14
                          try clear p2
                          try clear p6
                          try clear q1
                          try clear q14
                          obtain ⟨kq, x35_18, rfl, HA, HJ18, HO_5, HB⟩ := hcut
                          cases kq with
                          | zero => exact absurd HA.out (by simp [tattingref7_Behind.j2])
                          | succ kj18 =>
                            have H := HA.out
                            clear HA
                            simp only [tattingref7_Behind.j2] at H
                            by_cases c21 : x35_18 = true
                            · subst c21
                              have H1 : (if 0 ≤ x6_1 then (if x6_1 < (l0.length : Int) then (if 0 ≤ x7_2 then (if x7_2 < (l1.length : Int) then (if (rd l0 x6_1) = (rd l1 x7_2) then (if x6_1 < (x5_2.length : Int) then (if 0 ≤ (wrap64 (x6_1 + 1)) then (if (wrap64 (x6_1 + 1)) < (x5_2.length : Int) then (if 0 ≤ (wrap64 (x7_2 + 1)) then (if (wrap64 (x7_2 + 1)) < ((rd_L2 x5_2 (wrap64 (x6_1 + 1))).length : Int) then (if x7_2 < ((rd_L2 x5_2 x6_1).length : Int) then (tattingref7_Behind.l1 kj18 l0 l1 (x5_2.set (x6_1 : Int).toNat ((rd_L2 x5_2 x6_1).set (x7_2 : Int).toNat (wrap64 ((rd (rd_L2 x5_2 (wrap64 (x6_1 + 1))) (wrap64 (x7_2 + 1))) + 1)))) x6_1 (wrap64 (x7_2 - 1))) else (none)) else (none)) else (none)) else (none)) else (none)) else (none)) else (if x6_1 < (x5_2.length : Int) then (if 0 ≤ (wrap64 (x6_1 + 1)) then (if (wrap64 (x6_1 + 1)) < (x5_2.length : Int) then (if x7_2 < ((rd_L2 x5_2 (wrap64 (x6_1 + 1))).length : Int) then (if 0 ≤ (wrap64 (x7_2 + 1)) then (if (wrap64 (x7_2 + 1)) < ((rd_L2 x5_2 x6_1).length : Int) then (if x7_2 < ((rd_L2 x5_2 x6_1).length : Int) then (tattingref7_Behind.l1 kj18 l0 l1 (x5_2.set (x6_1 : Int).toNat ((rd_L2 x5_2 x6_1).set (x7_2 : Int).toNat (mx (rd (rd_L2 x5_2 (wrap64 (x6_1 + 1))) x7_2) (rd (rd_L2 x5_2 x6_1) (wrap64 (x7_2 + 1)))))) x6_1 (wrap64 (x7_2 - 1))) else (none)) else (none)) else (none)) else (none)) else (none)) else (none)) else (none))) else (none)) else (none)) else (none)) else (none)) = some r := by rw [if_pos rfl] at H; exact H
                              clear H
                              have H := H1
                              clear H1
                              by_cases c22 : 0 ≤ x6_1
                              · rw [if_pos c22] at H
                                have c22b0 : decide (0 ≤ x6_1) = true := decide_eq_true c22
                                clear c22
                                by_cases c23 : x6_1 < (l0.length : Int)
                                · rw [if_pos c23] at H
                                  have c23b0 : decide (x6_1 < (l0.length : Int)) = true := decide_eq_true c23
                                  clear c23
                                  by_cases c24 : 0 ≤ x7_2
                                  · rw [if_pos c24] at H
                                    have c24b0 : decide (0 ≤ x7_2) = true := decide_eq_true c24
                                    clear c24
                                    by_cases c25 : x7_2 < (l1.length : Int)
                                    · rw [if_pos c25] at H
                                      have c25b0 : decide (x7_2 < (l1.length : Int)) = true := decide_eq_true c25
                                      clear c25
                                      by_cases c26 : (rd l0 x6_1) = (rd l1 x7_2)
                                      · rw [if_pos c26] at H
                                        have c26b0 : ((rd l0 x6_1) == (rd l1 x7_2)) = true := beq_iff_eq.mpr c26
                                        have c26b1 : ((rd l0 x6_1) != (rd l1 x7_2)) = false := bne_eq_false_iff_eq.mpr c26
                                        clear c26
                                        by_cases c27 : x6_1 < (x5_2.length : Int)
                                        · rw [if_pos c27] at H
                                          have c27b0 : decide (x6_1 < (x5_2.length : Int)) = true := decide_eq_true c27
                                          clear c27
                                          obtain ⟨ji28, hji28⟩ : ∃ j_ : Int, (wrap64 (x6_1 + 1)) = j_ := ⟨_, rfl⟩
                                          replace H : (if 0 ≤ (ji28) then (if (ji28) < (x5_2.length : Int) then (if 0 ≤ (wrap64 (x7_2 + 1)) then (if (wrap64 (x7_2 + 1)) < ((rd_L2 x5_2 (ji28)).length : Int) then (if x7_2 < ((rd_L2 x5_2 x6_1).length : Int) then (tattingref7_Behind.l1 kj18 l0 l1 (x5_2.set (x6_1 : Int).toNat ((rd_L2 x5_2 x6_1).set (x7_2 : Int).toNat (wrap64 ((rd (rd_L2 x5_2 (ji28)) (wrap64 (x7_2 + 1))) + 1)))) x6_1 (wrap64 (x7_2 - 1))) else (none)) else (none)) else (none)) else (none)) else (none)) = some r := by first | (rw [hji28] at H; exact H) | (simp only [hji28] at H ⊢; exact H)
                                          have hji28w : (IntKind.i64.wrap (x6_1 + 1)) = ji28 := (i64_w _).trans hji28
                                          by_cases c29 : 0 ≤ (ji28)
                                          · rw [if_pos c29] at H
                                            have c29b0 : decide (0 ≤ (ji28)) = true := decide_eq_true c29
                                            clear c29
                                            by_cases c30 : (ji28) < (x5_2.length : Int)
                                            · rw [if_pos c30] at H
                                              have c30b0 : decide ((ji28) < (x5_2.length : Int)) = true := decide_eq_true c30
                                              clear c30
                                              obtain ⟨ji31, hji31⟩ : ∃ j_ : Int, (wrap64 (x7_2 + 1)) = j_ := ⟨_, rfl⟩
                                              replace H : (if 0 ≤ (ji31) then (if (ji31) < ((rd_L2 x5_2 (ji28)).length : Int) then (if x7_2 < ((rd_L2 x5_2 x6_1).length : Int) then (tattingref7_Behind.l1 kj18 l0 l1 (x5_2.set (x6_1 : Int).toNat ((rd_L2 x5_2 x6_1).set (x7_2 : Int).toNat (wrap64 ((rd (rd_L2 x5_2 (ji28)) (ji31)) + 1)))) x6_1 (wrap64 (x7_2 - 1))) else (none)) else (none)) else (none)) = some r := by first | (rw [hji31] at H; exact H) | (simp only [hji31] at H ⊢; exact H)
                                              have hji31w : (IntKind.i64.wrap (x7_2 + 1)) = ji31 := (i64_w _).trans hji31
                                              by_cases c32 : 0 ≤ (ji31)
                                              · rw [if_pos c32] at H
                                                have c32b0 : decide (0 ≤ (ji31)) = true := decide_eq_true c32
                                                clear c32
                                                by_cases c33 : (ji31) < ((rd_L2 x5_2 (ji28)).length : Int)
                                                · rw [if_pos c33] at H
                                                  have c33b0 : decide ((ji31) < ((rd_L2 x5_2 (ji28)).length : Int)) = true := decide_eq_true c33
                                                  clear c33
                                                  by_cases c34 : x7_2 < ((rd_L2 x5_2 x6_1).length : Int)
                                                  · rw [if_pos c34] at H
                                                    have c34b0 : decide (x7_2 < ((rd_L2 x5_2 x6_1).length : Int)) = true := decide_eq_true c34
                                                    clear c34
                                                    obtain ⟨y211, hy211⟩ : ∃ y_ : List Int, y_ = ((rd_L2 x5_2 x6_1).set (x7_2 : Int).toNat (wrap64 ((rd (rd_L2 x5_2 (ji28)) (ji31)) + 1))) := ⟨_, rfl⟩
                                                    replace H : (tattingref7_Behind.l1 kj18 l0 l1 (x5_2.set (x6_1 : Int).toNat y211) x6_1 (wrap64 (x7_2 - 1))) = some r := by first | (rw [hy211]; with_reducible exact H) | (have H2_ := (Option.bind_some _ _).symm.trans H; rw [hy211]; with_reducible exact H2_) | (have H2_ := (Option.bind_some _ _).symm.trans H; with_reducible exact H2_) | with_reducible exact H | (rw [hy211]; exact H) | exact H
                                                    have Ny211 := Aside0.mk hy211
                                                    clear hy211
                                                    obtain ⟨y213, hy213⟩ : ∃ y_ : List (List Int), y_ = (x5_2.set (x6_1 : Int).toNat y211) := ⟨_, rfl⟩
                                                    replace H : (tattingref7_Behind.l1 kj18 l0 l1 y213 x6_1 (wrap64 (x7_2 - 1))) = some r := by first | (rw [hy213]; with_reducible exact H) | (have H2_ := (Option.bind_some _ _).symm.trans H; rw [hy213]; with_reducible exact H2_) | (have H2_ := (Option.bind_some _ _).symm.trans H; with_reducible exact H2_) | with_reducible exact H | (rw [hy213]; exact H) | exact H
                                                    have Ny213 := Aside0.mk hy213
                                                    clear hy213
                                                    have H' := Aside0.mk H
                                                    clear H
                                                    try go_wp2
                                                    have n0_ := Aside0.mk (Kd.S_drew HO_5.out)
                                                    have n1_ := Aside0.mk (below_drew1 HB.out)
                                                    clear HO_5
                                                    clear HB
                                                    have HO_5 := n0_
                                                    have HB := n1_
                                                    clear n0_ n1_
                                                    have p206 : 0 ≤ (x6_1 : Int) := of_decide_eq_true (by first | (with_reducible assumption) | assumption)
                                                    have q206 : x6_1 < (l0.length : Int) := of_decide_eq_true (by first | (with_reducible assumption) | assumption)
                                                    obtain ⟨ad206, e206, hx206_0⟩ := Kd.at_int HR0.out x6_1 p206 q206
                                                    have hw206_0 := hx206_0
                                                    cases e206
                                                    replace hx206_0 := (HB.out.cell (World.block_lt_of_cell? w _ hx206_0)).trans hx206_0
                                                    replace p206 := eq_true p206
                                                    replace q206 := eq_true q206
                                                    have p207 : 0 ≤ (x7_2 : Int) := of_decide_eq_true (by first | (with_reducible assumption) | assumption)
                                                    have q207 : x7_2 < (l1.length : Int) := of_decide_eq_true (by first | (with_reducible assumption) | assumption)
                                                    obtain ⟨ad207, e207, hx207_0⟩ := Kd.at_int HR1.out x7_2 p207 q207
                                                    have hw207_0 := hx207_0
                                                    cases e207
                                                    replace hx207_0 := (HB.out.cell (World.block_lt_of_cell? w _ hx207_0)).trans hx207_0
                                                    replace p207 := eq_true p207
                                                    replace q207 := eq_true q207
                                                    refine start_ (n := 9) (S := fun w' => w'.cell? (ad206.add (x6_1).toNat) = some (.int .i64 (rd l0 x6_1)) ∧ w'.cell? (ad207.add (x7_2).toNat) = some (.int .i64 (rd l1 x7_2))) (ds := []) #[false, false, false, false, false, false, false, false, false] (by kernel_rfl) rfl rfl ⟨((HB.out.cell (World.block_lt_of_cell? w _ hw206_0)).trans hw206_0), ((HB.out.cell (World.block_lt_of_cell? w _ hw207_0)).trans hw207_0)⟩ (fun hHeld => ?_); refine with_tabW tattingref7_Behind.tab9 tattingref7_Behind.bits9 (fun HT_ HW_ => ?_)
                                                    generalize wc.drew = w36 at HO_5 HB hx206_0 hx207_0 hHeld ⊢
                                                    refine pure_ (i := 0) (N := some 38) (v := ?_) (a' := ?_) #[true, false, false, false, false, false, false, false, false] rfl rfl (any_of HT_.out (by kernel_rfl)) (fun _ _ _ h => h) (Or.inl ⟨by rfl, ?_⟩) ?_ ?_
                                                    rotate_left
                                                    · intro w'
                                                      go_simp
                                                      with_reducible rfl
                                                    rotate_left
                                                    · simp only [Act.put, List.setIfInBounds_toArray, List.set_cons_zero, List.set_cons_succ, i64_w, i32_w]
                                                      rfl
                                                    refine pure_ (i := 1) (N := some 39) (v := ?_) (a' := ?_) #[true, true, false, false, false, false, false, false, false] rfl rfl (any_of HT_.out (by kernel_rfl)) (fun _ _ _ h => h) (Or.inl ⟨by rfl, ?_⟩) ?_ ?_
                                                    rotate_left
                                                    · intro w'
                                                      go_simp
                                                      with_reducible rfl
                                                    rotate_left
                                                    · simp only [Act.put, List.setIfInBounds_toArray, List.set_cons_zero, List.set_cons_succ, i64_w, i32_w]
                                                      rfl
                                                    refine pure_ (i := 2) (N := some 40) (v := ?_) (a' := ?_) #[true, true, true, false, false, false, false, false, false] rfl rfl (any_of HT_.out (by kernel_rfl)) (fun _ _ _ h => h) (Or.inl ⟨by rfl, ?_⟩) ?_ ?_
                                                    rotate_left
                                                    · intro w'
                                                      go_simp
                                                      with_reducible rfl
                                                    rotate_left
                                                    · simp only [Act.put, List.setIfInBounds_toArray, List.set_cons_zero, List.set_cons_succ, i64_w, i32_w]
                                                      rfl
                                                    refine pure_ (i := 4) (N := some 42) (v := ?_) (a' := ?_) #[true, true, true, false, true, false, false, false, false] rfl rfl (any_of HT_.out (by kernel_rfl)) (fun _ _ _ h => h) (Or.inl ⟨by rfl, ?_⟩) ?_ ?_
                                                    rotate_left
                                                    · intro w'
                                                      go_simp
                                                      with_reducible rfl
                                                    rotate_left
                                                    · simp only [Act.put, List.setIfInBounds_toArray, List.set_cons_zero, List.set_cons_succ, i64_w, i32_w]
                                                      rfl
                                                    refine pure_ (i := 5) (N := some 43) (v := ?_) (a' := ?_) #[true, true, true, false, true, true, false, false, false] rfl rfl (any_of HT_.out (by kernel_rfl)) (fun _ _ _ h => h) (Or.inl ⟨by rfl, ?_⟩) ?_ ?_
                                                    rotate_left
                                                    · intro w'
                                                      go_simp
                                                      with_reducible rfl
                                                    rotate_left
                                                    · simp only [Act.put, List.setIfInBounds_toArray, List.set_cons_zero, List.set_cons_succ, i64_w, i32_w]
                                                      rfl
                                                    refine pure_ (i := 6) (N := some 44) (v := ?_) (a' := ?_) #[true, true, true, false, true, true, true, false, false] rfl rfl (any_of HT_.out (by kernel_rfl)) (fun _ _ _ h => h) (Or.inl ⟨by rfl, ?_⟩) ?_ ?_
                                                    rotate_left
                                                    · intro w'
                                                      go_simp
                                                      with_reducible rfl
                                                    rotate_left
                                                    · simp only [Act.put, List.setIfInBounds_toArray, List.set_cons_zero, List.set_cons_succ, i64_w, i32_w]
                                                      rfl
                                                    refine take_ (i := 3) (N := some 41) (v := ?_) (a' := ?_) #[true, true, true, true, true, true, true, false, false] rfl rfl (take_ofW HT_.out HW_.out (by kernel_rfl)) (fun _ _ _ h => h) (Or.inl ⟨by rfl, ?_⟩) hHeld ?_ ?_
                                                    rotate_left
                                                    · rintro w' ⟨s0, s1⟩
                                                      go_simp
                                                      with_reducible rfl
                                                    rotate_left
                                                    · simp only [Act.put, List.setIfInBounds_toArray, List.set_cons_zero, List.set_cons_succ, i64_w, i32_w]
                                                      rfl
                                                    refine take_ (i := 7) (N := some 45) (v := ?_) (a' := ?_) #[true, true, true, true, true, true, true, true, false] rfl rfl (take_ofW HT_.out HW_.out (by kernel_rfl)) (fun _ _ _ h => h) (Or.inl ⟨by rfl, ?_⟩) hHeld ?_ ?_
                                                    rotate_left
                                                    · rintro w' ⟨s0, s1⟩
                                                      go_simp
                                                      with_reducible rfl
                                                    rotate_left
                                                    · simp only [Act.put, List.setIfInBounds_toArray, List.set_cons_zero, List.set_cons_succ, i64_w, i32_w]
                                                      rfl
                                                    refine pure_ (i := 8) (N := some 46) (v := ?_) (a' := ?_) #[true, true, true, true, true, true, true, true, true] rfl rfl (any_of HT_.out (by kernel_rfl)) (fun _ _ _ h => h) (Or.inl ⟨by rfl, ?_⟩) ?_ ?_
                                                    rotate_left
                                                    · intro w'
                                                      go_simp
                                                      with_reducible rfl
                                                    rotate_left
                                                    · simp only [Act.put, List.setIfInBounds_toArray, List.set_cons_zero, List.set_cons_succ, i64_w, i32_w]
                                                      rfl
                                                    refine done_ (done_of HT_.out (by kernel_rfl)) ?_
                                                    try go_wp2
                                                    have n0_ := Aside0.mk (Kd.S_drew HO_5.out)
                                                    have n1_ := Aside0.mk (below_drew1 HB.out)
                                                    clear HO_5
                                                    clear HB
                                                    have HO_5 := n0_
                                                    have HB := n1_
                                                    clear n0_ n1_
                                                    have p208 : 0 ≤ (x6_1 : Int) := of_decide_eq_true (by first | (with_reducible assumption) | assumption)
                                                    have q208 : x6_1 < (x5_2.length : Int) := of_decide_eq_true (by first | (with_reducible assumption) | assumption)
                                                    obtain ⟨ad208, A208_0, c208_0, e208, hx208_0, hl208_0, hi208_0⟩ := at_L2 (Kd.S_reads' HO_5.out).2.2 x6_1 p208 q208
                                                    obtain rfl : (⟨go14, 0, none⟩ : Addr) = ad208 := (by injection e208)
                                                    obtain ⟨ce208, hce208, hMe208, hcc208⟩ := Kd.S_get HO_5.out [] x6_1 p208 (by first | exact q208 | exact of_decide_eq_true (by first | (with_reducible assumption) | assumption) | (have e_ := (Kd.S_reads' HO_5.out).1; omega))
                                                    obtain ⟨ve208_0, rfl, ge208_0⟩ := hMe208
                                                    have hv208_0 := hcc208 0 _ rfl
                                                    rw [Nat.add_zero, show ((Kd.slice 3 (Kd.int .i64))).sz = 1 from rfl, Nat.mul_one] at hv208_0
                                                    replace hv208_0 := Option.some.inj (hv208_0.symm.trans hx208_0)
                                                    rw [hv208_0] at ge208_0
                                                    have HL208_0 := Aside0.mk (show Kd.R (Kd.int .i64) 3 _ _ _ _ (rd_L2 x5_2 x6_1) from ge208_0)
                                                    clear hv208_0 ge208_0
                                                    have HX208_0 := Aside0.mk hx208_0
                                                    clear hcc208 hce208
                                                    (first | simp only [add_plain] at hx208_0 | simp only [add_at] at hx208_0 | simp only [Addr.add, Nat.zero_add] at hx208_0 | skip)
                                                    have HR208_0 := Aside0.mk hi208_0
                                                    have HC208_0 := Aside0.mk hl208_0
                                                    clear hi208_0 hl208_0
                                                    replace p208 := eq_true p208
                                                    replace q208 := eq_true q208
                                                    have p209 : 0 ≤ ((ji28) : Int) := of_decide_eq_true (by first | (with_reducible assumption) | assumption)
                                                    have q209 : (ji28) < (x5_2.length : Int) := of_decide_eq_true (by first | (with_reducible assumption) | assumption)
                                                    obtain ⟨ad209, A209_0, c209_0, e209, hx209_0, hl209_0, hi209_0⟩ := at_L2 (Kd.S_reads' HO_5.out).2.2 (ji28) p209 q209
                                                    obtain rfl : (⟨go14, 0, none⟩ : Addr) = ad209 := (by injection e209)
                                                    obtain ⟨ce209, hce209, hMe209, hcc209⟩ := Kd.S_get HO_5.out [] (ji28) p209 (by first | exact q209 | exact of_decide_eq_true (by first | (with_reducible assumption) | assumption) | (have e_ := (Kd.S_reads' HO_5.out).1; omega))
                                                    obtain ⟨ve209_0, rfl, ge209_0⟩ := hMe209
                                                    have hv209_0 := hcc209 0 _ rfl
                                                    rw [Nat.add_zero, show ((Kd.slice 3 (Kd.int .i64))).sz = 1 from rfl, Nat.mul_one] at hv209_0
                                                    replace hv209_0 := Option.some.inj (hv209_0.symm.trans hx209_0)
                                                    rw [hv209_0] at ge209_0
                                                    have HL209_0 := Aside0.mk (show Kd.R (Kd.int .i64) 3 _ _ _ _ (rd_L2 x5_2 (ji28)) from ge209_0)
                                                    clear hv209_0 ge209_0
                                                    have HX209_0 := Aside0.mk hx209_0
                                                    clear hcc209 hce209
                                                    (first | simp only [add_plain] at hx209_0 | simp only [add_at] at hx209_0 | simp only [Addr.add, Nat.zero_add] at hx209_0 | skip)
                                                    have HR209_0 := Aside0.mk hi209_0
                                                    have HC209_0 := Aside0.mk hl209_0
                                                    clear hi209_0 hl209_0
                                                    replace p209 := eq_true p209
                                                    replace q209 := eq_true q209
                                                    have p210 : 0 ≤ ((ji31) : Int) := of_decide_eq_true (by first | (with_reducible assumption) | assumption)
                                                    have q210 : (ji31) < ((rd_L2 x5_2 (ji28)).length : Int) := of_decide_eq_true (by first | (with_reducible assumption) | assumption)
                                                    obtain ⟨ad210, e210, hx210_0⟩ := Kd.at_int (by repeat (first | (with_reducible exact HR209_0.out) | (with_reducible refine Kd.C_alloc ?_ _) | (with_reducible refine Kd.C_drewN ?_ _) | (with_reducible refine Kd.C_drew ?_) | exact HR209_0.out)) (ji31) p210 q210
                                                    cases e210
                                                    replace p210 := eq_true p210
                                                    replace q210 := eq_true q210
                                                    have p35 : 0 ≤ (x7_2 : Int) := of_decide_eq_true (by first | (with_reducible assumption) | assumption)
                                                    have q35 : (x7_2 : Int) < (((rd_L2 x5_2 x6_1).length : Int) : Int) := of_decide_eq_true (by first | (with_reducible assumption) | assumption)
                                                    obtain ⟨go35, co35, eo35, gb35, gl35, cl35, HG35⟩ := Kd.R_form HL208_0.out (by omega)
                                                    (first | cases eo35 | (injection eo35 with ea_ en_ ec_; (first | subst ea_ | (injection ea_ with ea_; subst ea_)); subst ec_; clear en_))
                                                    have GB35 := Aside0.mk gb35
                                                    have GG35 := Aside0.mk HG35
                                                    clear gb35 gl35 HG35
                                                    obtain ⟨hx35_0, hf35_0⟩ := Kd.R_celln 0 HL208_0.out (x7_2 : Int) p35 q35
                                                    replace p35 := eq_true p35
                                                    replace q35 := eq_true q35
                                                    have hq38 : (x6_1 : Int) < (x5_2.length : Int) := (by have h_ : (x6_1 : Int) < ((x5_2.length : Int) : Int) := of_decide_eq_true (by first | (with_reducible assumption) | assumption); first | exact h_ | (have e_ := (Kd.S_reads' HO_5.out).1; omega) | simpa only [List.length_set, List.length_set] using h_)
                                                    obtain ⟨oki38, ce38, hcl38, hM38, hcc38, hok38, hbk38⟩ := Kd.S_borrow HO_5.out [] (x6_1 : Int) (of_decide_eq_true (by first | (with_reducible assumption) | assumption)) hq38
                                                    obtain ⟨ve38_0, rfl, ge38_0⟩ := hM38
                                                    have hv38 := hcc38 0 _ rfl
                                                    rw [Nat.add_zero, show ((Kd.slice 3 (Kd.int .i64))).sz = 1 from rfl, Nat.mul_one] at hv38
                                                    replace hv38 := Option.some.inj (hv38.symm.trans HX208_0.out)
                                                    subst hv38
                                                    clear hcc38 hcl38
                                                    replace ge38_0 := (show Kd.R (Kd.int .i64) 3 _ _ _ _ (rd_L2 x5_2 x6_1) from ge38_0)
                                                    have HP38 := Kd.R_putg ge38_0 (x7_2 : Int) (wrap64 ((rd (rd_L2 x5_2 (ji28)) (ji31)) + 1))
                                                    rw [← Ny211.out] at HP38
                                                    have HS38 := hbk38 HP38.2 (fun k_ e_ => by injection e_ with e_; subst e_; exact ge38_0.1 _ rfl) (x' := y211) (Kd.M_row HP38.1)
                                                    rw [← Ny213.out] at HS38
                                                    have HQ38 := Aside0.mk HS38
                                                    clear HP38 HS38 hbk38 hok38
                                                    refine start_ (n := 17) (S := fun w' => w'.cell? ⟨go14, (x6_1).toNat, none⟩ = some (.slice (some ⟨go35, 0, none⟩) (rd_L2 x5_2 x6_1).length c208_0) ∧ w'.cell? ⟨go14, ((ji28)).toNat, none⟩ = some (.slice (some ad210) (rd_L2 x5_2 (ji28)).length c209_0) ∧ w'.cell? (ad210.add ((ji31)).toNat) = some (.int .i64 (rd (rd_L2 x5_2 (ji28)) (ji31)))) (ds := [16]) #[false, false, false, false, false, false, false, false, false, false, false, false, false, false, false, false, false] (by kernel_rfl) rfl rfl ⟨hx208_0, hx209_0, hx210_0⟩ (fun hHeld => ?_); refine with_tabW tattingref7_Behind.tab10 tattingref7_Behind.bits10 (fun HT_ HW_ => ?_)
                                                    generalize w36.drew = w37 at HO_5 HB GG35 HL208_0 HL209_0 HQ38 HR208_0 HR209_0 HX208_0 HX209_0 hf35_0 hx208_0 hx209_0 hx210_0 hx35_0 hHeld ⊢
                                                    refine pure_ (i := 0) (N := some 47) (v := ?_) (a' := ?_) #[true, false, false, false, false, false, false, false, false, false, false, false, false, false, false, false, false] rfl rfl (any_of HT_.out (by kernel_rfl)) (fun _ _ _ h => h) (Or.inl ⟨by rfl, ?_⟩) ?_ ?_
                                                    rotate_left
                                                    · intro w'
                                                      go_simp
                                                      with_reducible rfl
                                                    rotate_left
                                                    · simp only [Act.put, List.setIfInBounds_toArray, List.set_cons_zero, List.set_cons_succ, i64_w, i32_w]
                                                      rfl
                                                    refine pure_ (i := 1) (N := some 48) (v := ?_) (a' := ?_) #[true, true, false, false, false, false, false, false, false, false, false, false, false, false, false, false, false] rfl rfl (any_of HT_.out (by kernel_rfl)) (fun _ _ _ h => h) (Or.inl ⟨by rfl, ?_⟩) ?_ ?_
                                                    rotate_left
                                                    · intro w'
                                                      go_simp
                                                      with_reducible rfl
                                                    rotate_left
                                                    · simp only [Act.put, List.setIfInBounds_toArray, List.set_cons_zero, List.set_cons_succ, i64_w, i32_w]
                                                      rfl
                                                    refine pure_ (i := 2) (N := some 49) (v := ?_) (a' := ?_) #[true, true, true, false, false, false, false, false, false, false, false, false, false, false, false, false, false] rfl rfl (any_of HT_.out (by kernel_rfl)) (fun _ _ _ h => h) (Or.inl ⟨by rfl, ?_⟩) ?_ ?_
                                                    rotate_left
                                                    · intro w'
                                                      go_simp
                                                      with_reducible rfl
                                                    rotate_left
                                                    · simp only [Act.put, List.setIfInBounds_toArray, List.set_cons_zero, List.set_cons_succ, i64_w, i32_w]
                                                      rfl
                                                    refine pure_ (i := 4) (N := some 51) (v := ?_) (a' := ?_) #[true, true, true, false, true, false, false, false, false, false, false, false, false, false, false, false, false] rfl rfl (any_of HT_.out (by kernel_rfl)) (fun _ _ _ h => h) (Or.inl ⟨by rfl, ?_⟩) ?_ ?_
                                                    rotate_left
                                                    · intro w'
                                                      go_simp
                                                      with_reducible rfl
                                                    rotate_left
                                                    · simp only [Act.put, List.setIfInBounds_toArray, List.set_cons_zero, List.set_cons_succ, i64_w, i32_w]
                                                      rfl
                                                    refine pure_ (i := 5) (N := some 52) (v := ?_) (a' := ?_) #[true, true, true, false, true, true, false, false, false, false, false, false, false, false, false, false, false] rfl rfl (any_of HT_.out (by kernel_rfl)) (fun _ _ _ h => h) (Or.inl ⟨by rfl, ?_⟩) ?_ ?_
                                                    rotate_left
                                                    · intro w'
                                                      go_simp
                                                      with_reducible rfl
                                                    rotate_left
                                                    · simp only [Act.put, List.setIfInBounds_toArray, List.set_cons_zero, List.set_cons_succ, i64_w, i32_w]
                                                      rfl
                                                    refine pure_ (i := 6) (N := some 53) (v := ?_) (a' := ?_) #[true, true, true, false, true, true, true, false, false, false, false, false, false, false, false, false, false] rfl rfl (any_of HT_.out (by kernel_rfl)) (fun _ _ _ h => h) (Or.inl ⟨by rfl, ?_⟩) ?_ ?_
                                                    rotate_left
                                                    · intro w'
                                                      go_simp
                                                      with_reducible rfl
                                                    rotate_left
                                                    · simp only [Act.put, List.setIfInBounds_toArray, List.set_cons_zero, List.set_cons_succ, i64_w, i32_w]
                                                      rfl
                                                    refine pure_ (i := 7) (N := some 54) (v := ?_) (a' := ?_) #[true, true, true, false, true, true, true, true, false, false, false, false, false, false, false, false, false] rfl rfl (any_of HT_.out (by kernel_rfl)) (fun _ _ _ h => h) (Or.inl ⟨by rfl, ?_⟩) ?_ ?_
                                                    rotate_left
                                                    · intro w'
                                                      go_simp
                                                      with_reducible rfl
                                                    rotate_left
                                                    · simp only [Act.put, List.setIfInBounds_toArray, List.set_cons_zero, List.set_cons_succ, i64_w, i32_w]
                                                      rfl
                                                    refine pure_ (i := 8) (N := some 55) (v := ?_) (a' := ?_) #[true, true, true, false, true, true, true, true, true, false, false, false, false, false, false, false, false] rfl rfl (any_of HT_.out (by kernel_rfl)) (fun _ _ _ h => h) (Or.inl ⟨by rfl, ?_⟩) ?_ ?_
                                                    rotate_left
                                                    · intro w'
                                                      go_simp
                                                      with_reducible rfl
                                                    rotate_left
                                                    · simp only [Act.put, List.setIfInBounds_toArray, List.set_cons_zero, List.set_cons_succ, i64_w, i32_w]
                                                      rfl
                                                    refine pure_ (i := 10) (N := some 57) (v := ?_) (a' := ?_) #[true, true, true, false, true, true, true, true, true, false, true, false, false, false, false, false, false] rfl rfl (any_of HT_.out (by kernel_rfl)) (fun _ _ _ h => h) (Or.inl ⟨by rfl, ?_⟩) ?_ ?_
                                                    rotate_left
                                                    · intro w'
                                                      go_simp
                                                      with_reducible rfl
                                                    rotate_left
                                                    · simp only [Act.put, List.setIfInBounds_toArray, List.set_cons_zero, List.set_cons_succ, i64_w, i32_w]
                                                      rfl
                                                    refine pure_ (i := 11) (N := some 58) (v := ?_) (a' := ?_) #[true, true, true, false, true, true, true, true, true, false, true, true, false, false, false, false, false] rfl rfl (any_of HT_.out (by kernel_rfl)) (fun _ _ _ h => h) (Or.inl ⟨by rfl, ?_⟩) ?_ ?_
                                                    rotate_left
                                                    · intro w'
                                                      go_simp
                                                      with_reducible rfl
                                                    rotate_left
                                                    · simp only [Act.put, List.setIfInBounds_toArray, List.set_cons_zero, List.set_cons_succ, i64_w, i32_w]
                                                      rfl
                                                    refine take_ (i := 3) (N := some 50) (v := ?_) (a' := ?_) #[true, true, true, true, true, true, true, true, true, false, true, true, false, false, false, false, false] rfl rfl (take_ofW HT_.out HW_.out (by kernel_rfl)) (fun _ _ _ h => h) (Or.inl ⟨by rfl, ?_⟩) hHeld ?_ ?_
                                                    rotate_left
                                                    · rintro w' ⟨s0, s1, s2⟩
                                                      go_simp
                                                      with_reducible rfl
                                                    rotate_left
                                                    · simp only [Act.put, List.setIfInBounds_toArray, List.set_cons_zero, List.set_cons_succ, i64_w, i32_w]
                                                      rfl
                                                    refine take_ (i := 9) (N := some 56) (v := ?_) (a' := ?_) #[true, true, true, true, true, true, true, true, true, true, true, true, false, false, false, false, false] rfl rfl (take_ofW HT_.out HW_.out (by kernel_rfl)) (fun _ _ _ h => h) (Or.inl ⟨by rfl, ?_⟩) hHeld ?_ ?_
                                                    rotate_left
                                                    · rintro w' ⟨s0, s1, s2⟩
                                                      go_simp
                                                      with_reducible rfl
                                                    rotate_left
                                                    · simp only [Act.put, List.setIfInBounds_toArray, List.set_cons_zero, List.set_cons_succ, i64_w, i32_w]
                                                      rfl
                                                    refine pure_ (i := 12) (N := some 59) (v := ?_) (a' := ?_) #[true, true, true, true, true, true, true, true, true, true, true, true, true, false, false, false, false] rfl rfl (any_of HT_.out (by kernel_rfl)) (fun _ _ _ h => h) (Or.inl ⟨by rfl, ?_⟩) ?_ ?_
                                                    rotate_left
                                                    · intro w'
                                                      go_simp
                                                      with_reducible rfl
                                                    rotate_left
                                                    · simp only [Act.put, List.setIfInBounds_toArray, List.set_cons_zero, List.set_cons_succ, i64_w, i32_w]
                                                      rfl
                                                    refine take_ (i := 13) (N := some 60) (v := ?_) (a' := ?_) #[true, true, true, true, true, true, true, true, true, true, true, true, true, true, false, false, false] rfl rfl (take_ofW HT_.out HW_.out (by kernel_rfl)) (fun _ _ _ h => h) (Or.inl ⟨by rfl, ?_⟩) hHeld ?_ ?_
                                                    rotate_left
                                                    · rintro w' ⟨s0, s1, s2⟩
                                                      go_simp
                                                      with_reducible rfl
                                                    rotate_left
                                                    · simp only [Act.put, List.setIfInBounds_toArray, List.set_cons_zero, List.set_cons_succ, i64_w, i32_w]
                                                      rfl
                                                    refine pure_ (i := 14) (N := some 61) (v := ?_) (a' := ?_) #[true, true, true, true, true, true, true, true, true, true, true, true, true, true, true, false, false] rfl rfl (any_of HT_.out (by kernel_rfl)) (fun _ _ _ h => h) (Or.inl ⟨by rfl, ?_⟩) ?_ ?_
                                                    rotate_left
                                                    · intro w'
                                                      go_simp
                                                      with_reducible rfl
                                                    rotate_left
                                                    · simp only [Act.put, List.setIfInBounds_toArray, List.set_cons_zero, List.set_cons_succ, i64_w, i32_w]
                                                      rfl
                                                    refine pure_ (i := 15) (N := some 62) (v := ?_) (a' := ?_) #[true, true, true, true, true, true, true, true, true, true, true, true, true, true, true, true, false] rfl rfl (any_of HT_.out (by kernel_rfl)) (fun _ _ _ h => h) (Or.inl ⟨by rfl, ?_⟩) ?_ ?_
                                                    rotate_left
                                                    · intro w'
                                                      go_simp
                                                      with_reducible rfl
                                                    rotate_left
                                                    · simp only [Act.put, List.setIfInBounds_toArray, List.set_cons_zero, List.set_cons_succ, i64_w, i32_w]
                                                      rfl
                                                    refine last_ (i := 16) (N := none) #[true, true, true, true, true, true, true, true, true, true, true, true, true, true, true, true, true] rfl rfl (one_of HT_.out (by kernel_rfl)) (by decide) (fun K hK => ?_)
                                                    refine skip_ (w1 := ?_) (by rfl) rfl ?_ ?_
                                                    rotate_left
                                                    · go_simp
                                                      rfl
                                                    refine hK.out _ _ ?_
                                                    clear hK K
                                                    refine done_ (done_of HT_.out (by kernel_rfl)) ?_
                                                    try go_wp2
                                                    (try simp only [← hl5_2])
                                                    go_roundg kj18
                                                    case measure => have := HK1.out; have := HK2.out; have := HJ18.out; omega
                                                    case rel => exact ⟨(y213), (wrap64 (x7_2 - 1)), (by first | rfl | (simp; done) | (simp [*]; done)), H', ⟨by have := HK1.out; have := HK2.out; have := HJ18.out; omega⟩, ⟨by (try simp only [hl5_2]); (with_reducible repeat (first | apply Kd.S_alloc | apply Kd.S_drewN | apply Kd.S_drew)); exact HQ38.out⟩, ⟨by repeat (first | (with_reducible first | exact HB.out | apply below_alloc | apply pw_below_drewN | apply below_drew1 | refine below_set ?_ GB35.out) | exact HB.out)⟩⟩
                                                  · rw [if_neg c34] at H
                                                    exact absurd H (by simp)
                                                · rw [if_neg c33] at H
                                                  exact absurd H (by simp)
                                              · rw [if_neg c32] at H
                                                exact absurd H (by simp)
                                            · rw [if_neg c30] at H
                                              exact absurd H (by simp)
                                          · rw [if_neg c29] at H
                                            exact absurd H (by simp)
                                        · rw [if_neg c27] at H
                                          exact absurd H (by simp)
                                      · rw [if_neg c26] at H
                                        have c26b0 : ((rd l0 x6_1) == (rd l1 x7_2)) = false := beq_eq_false_iff_ne.mpr c26
                                        have c26b1 : ((rd l0 x6_1) != (rd l1 x7_2)) = true := bne_iff_ne.mpr c26
                                        by_cases c40 : x6_1 < (x5_2.length : Int)
                                        · rw [if_pos c40] at H
                                          have c40b0 : decide (x6_1 < (x5_2.length : Int)) = true := decide_eq_true c40
                                          clear c40
                                          obtain ⟨ji41, hji41⟩ : ∃ j_ : Int, (wrap64 (x6_1 + 1)) = j_ := ⟨_, rfl⟩
                                          replace H : (if 0 ≤ (ji41) then (if (ji41) < (x5_2.length : Int) then (if x7_2 < ((rd_L2 x5_2 (ji41)).length : Int) then (if 0 ≤ (wrap64 (x7_2 + 1)) then (if (wrap64 (x7_2 + 1)) < ((rd_L2 x5_2 x6_1).length : Int) then (if x7_2 < ((rd_L2 x5_2 x6_1).length : Int) then (tattingref7_Behind.l1 kj18 l0 l1 (x5_2.set (x6_1 : Int).toNat ((rd_L2 x5_2 x6_1).set (x7_2 : Int).toNat (mx (rd (rd_L2 x5_2 (ji41)) x7_2) (rd (rd_L2 x5_2 x6_1) (wrap64 (x7_2 + 1)))))) x6_1 (wrap64 (x7_2 - 1))) else (none)) else (none)) else (none)) else (none)) else (none)) else (none)) = some r := by first | (rw [hji41] at H; exact H) | (simp only [hji41] at H ⊢; exact H)
                                          have hji41w : (IntKind.i64.wrap (x6_1 + 1)) = ji41 := (i64_w _).trans hji41
                                          by_cases c42 : 0 ≤ (ji41)
                                          · rw [if_pos c42] at H
                                            have c42b0 : decide (0 ≤ (ji41)) = true := decide_eq_true c42
                                            clear c42
                                            by_cases c43 : (ji41) < (x5_2.length : Int)
                                            · rw [if_pos c43] at H
                                              have c43b0 : decide ((ji41) < (x5_2.length : Int)) = true := decide_eq_true c43
                                              clear c43
                                              by_cases c44 : x7_2 < ((rd_L2 x5_2 (ji41)).length : Int)
                                              · rw [if_pos c44] at H
                                                have c44b0 : decide (x7_2 < ((rd_L2 x5_2 (ji41)).length : Int)) = true := decide_eq_true c44
                                                clear c44
                                                obtain ⟨ji45, hji45⟩ : ∃ j_ : Int, (wrap64 (x7_2 + 1)) = j_ := ⟨_, rfl⟩
                                                replace H : (if 0 ≤ (ji45) then (if (ji45) < ((rd_L2 x5_2 x6_1).length : Int) then (if x7_2 < ((rd_L2 x5_2 x6_1).length : Int) then (tattingref7_Behind.l1 kj18 l0 l1 (x5_2.set (x6_1 : Int).toNat ((rd_L2 x5_2 x6_1).set (x7_2 : Int).toNat (mx (rd (rd_L2 x5_2 (ji41)) x7_2) (rd (rd_L2 x5_2 x6_1) (ji45))))) x6_1 (wrap64 (x7_2 - 1))) else (none)) else (none)) else (none)) = some r := by first | (rw [hji45] at H; exact H) | (simp only [hji45] at H ⊢; exact H)
                                                have hji45w : (IntKind.i64.wrap (x7_2 + 1)) = ji45 := (i64_w _).trans hji45
                                                by_cases c46 : 0 ≤ (ji45)
                                                · rw [if_pos c46] at H
                                                  have c46b0 : decide (0 ≤ (ji45)) = true := decide_eq_true c46
                                                  clear c46
                                                  by_cases c47 : (ji45) < ((rd_L2 x5_2 x6_1).length : Int)
                                                  · rw [if_pos c47] at H
                                                    have c47b0 : decide ((ji45) < ((rd_L2 x5_2 x6_1).length : Int)) = true := decide_eq_true c47
                                                    clear c47
                                                    obtain ⟨ji48, hji48⟩ : ∃ j_ : Int, (mx (rd (rd_L2 x5_2 (ji41)) x7_2) (rd (rd_L2 x5_2 x6_1) (ji45))) = j_ := ⟨_, rfl⟩
                                                    replace H : (if x7_2 < ((rd_L2 x5_2 x6_1).length : Int) then (tattingref7_Behind.l1 kj18 l0 l1 (x5_2.set (x6_1 : Int).toNat ((rd_L2 x5_2 x6_1).set (x7_2 : Int).toNat (ji48))) x6_1 (wrap64 (x7_2 - 1))) else (none)) = some r := by first | (rw [hji48] at H; exact H) | (simp only [hji48] at H ⊢; exact H)
                                                    have hji48_ : (if (rd (rd_L2 x5_2 (ji41)) x7_2) < (rd (rd_L2 x5_2 x6_1) (ji45)) then (rd (rd_L2 x5_2 x6_1) (ji45)) else (rd (rd_L2 x5_2 (ji41)) x7_2)) = ji48 := hji48
                                                    by_cases c49 : x7_2 < ((rd_L2 x5_2 x6_1).length : Int)
                                                    · rw [if_pos c49] at H
                                                      have c49b0 : decide (x7_2 < ((rd_L2 x5_2 x6_1).length : Int)) = true := decide_eq_true c49
                                                      clear c49
                                                      obtain ⟨y219, hy219⟩ : ∃ y_ : List Int, y_ = ((rd_L2 x5_2 x6_1).set (x7_2 : Int).toNat (ji48)) := ⟨_, rfl⟩
                                                      replace H : (tattingref7_Behind.l1 kj18 l0 l1 (x5_2.set (x6_1 : Int).toNat y219) x6_1 (wrap64 (x7_2 - 1))) = some r := by first | (rw [hy219]; with_reducible exact H) | (have H2_ := (Option.bind_some _ _).symm.trans H; rw [hy219]; with_reducible exact H2_) | (have H2_ := (Option.bind_some _ _).symm.trans H; with_reducible exact H2_) | with_reducible exact H | (rw [hy219]; exact H) | exact H
                                                      have Ny219 := Aside0.mk hy219
                                                      clear hy219
                                                      obtain ⟨y221, hy221⟩ : ∃ y_ : List (List Int), y_ = (x5_2.set (x6_1 : Int).toNat y219) := ⟨_, rfl⟩
                                                      replace H : (tattingref7_Behind.l1 kj18 l0 l1 y221 x6_1 (wrap64 (x7_2 - 1))) = some r := by first | (rw [hy221]; with_reducible exact H) | (have H2_ := (Option.bind_some _ _).symm.trans H; rw [hy221]; with_reducible exact H2_) | (have H2_ := (Option.bind_some _ _).symm.trans H; with_reducible exact H2_) | with_reducible exact H | (rw [hy221]; exact H) | exact H
                                                      have Ny221 := Aside0.mk hy221
                                                      clear hy221
                                                      have H' := Aside0.mk H
                                                      clear H
                                                      try go_wp2
                                                      have n0_ := Aside0.mk (Kd.S_drew HO_5.out)
                                                      have n1_ := Aside0.mk (below_drew1 HB.out)
                                                      clear HO_5
                                                      clear HB
                                                      have HO_5 := n0_
                                                      have HB := n1_
                                                      clear n0_ n1_
                                                      have p206 : 0 ≤ (x6_1 : Int) := of_decide_eq_true (by first | (with_reducible assumption) | assumption)
                                                      have q206 : x6_1 < (l0.length : Int) := of_decide_eq_true (by first | (with_reducible assumption) | assumption)
                                                      obtain ⟨ad206, e206, hx206_0⟩ := Kd.at_int HR0.out x6_1 p206 q206
                                                      have hw206_0 := hx206_0
                                                      cases e206
                                                      replace hx206_0 := (HB.out.cell (World.block_lt_of_cell? w _ hx206_0)).trans hx206_0
                                                      replace p206 := eq_true p206
                                                      replace q206 := eq_true q206
                                                      have p207 : 0 ≤ (x7_2 : Int) := of_decide_eq_true (by first | (with_reducible assumption) | assumption)
                                                      have q207 : x7_2 < (l1.length : Int) := of_decide_eq_true (by first | (with_reducible assumption) | assumption)
                                                      obtain ⟨ad207, e207, hx207_0⟩ := Kd.at_int HR1.out x7_2 p207 q207
                                                      have hw207_0 := hx207_0
                                                      cases e207
                                                      replace hx207_0 := (HB.out.cell (World.block_lt_of_cell? w _ hx207_0)).trans hx207_0
                                                      replace p207 := eq_true p207
                                                      replace q207 := eq_true q207
                                                      refine start_ (n := 9) (S := fun w' => w'.cell? (ad206.add (x6_1).toNat) = some (.int .i64 (rd l0 x6_1)) ∧ w'.cell? (ad207.add (x7_2).toNat) = some (.int .i64 (rd l1 x7_2))) (ds := []) #[false, false, false, false, false, false, false, false, false] (by kernel_rfl) rfl rfl ⟨((HB.out.cell (World.block_lt_of_cell? w _ hw206_0)).trans hw206_0), ((HB.out.cell (World.block_lt_of_cell? w _ hw207_0)).trans hw207_0)⟩ (fun hHeld => ?_); refine with_tabW tattingref7_Behind.tab9 tattingref7_Behind.bits9 (fun HT_ HW_ => ?_)
                                                      generalize wc.drew = w51 at HO_5 HB hx206_0 hx207_0 hHeld ⊢
                                                      refine pure_ (i := 0) (N := some 38) (v := ?_) (a' := ?_) #[true, false, false, false, false, false, false, false, false] rfl rfl (any_of HT_.out (by kernel_rfl)) (fun _ _ _ h => h) (Or.inl ⟨by rfl, ?_⟩) ?_ ?_
                                                      rotate_left
                                                      · intro w'
                                                        go_simp
                                                        with_reducible rfl
                                                      rotate_left
                                                      · simp only [Act.put, List.setIfInBounds_toArray, List.set_cons_zero, List.set_cons_succ, i64_w, i32_w]
                                                        rfl
                                                      refine pure_ (i := 1) (N := some 39) (v := ?_) (a' := ?_) #[true, true, false, false, false, false, false, false, false] rfl rfl (any_of HT_.out (by kernel_rfl)) (fun _ _ _ h => h) (Or.inl ⟨by rfl, ?_⟩) ?_ ?_
                                                      rotate_left
                                                      · intro w'
                                                        go_simp
                                                        with_reducible rfl
                                                      rotate_left
                                                      · simp only [Act.put, List.setIfInBounds_toArray, List.set_cons_zero, List.set_cons_succ, i64_w, i32_w]
                                                        rfl
                                                      refine pure_ (i := 2) (N := some 40) (v := ?_) (a' := ?_) #[true, true, true, false, false, false, false, false, false] rfl rfl (any_of HT_.out (by kernel_rfl)) (fun _ _ _ h => h) (Or.inl ⟨by rfl, ?_⟩) ?_ ?_
                                                      rotate_left
                                                      · intro w'
                                                        go_simp
                                                        with_reducible rfl
                                                      rotate_left
                                                      · simp only [Act.put, List.setIfInBounds_toArray, List.set_cons_zero, List.set_cons_succ, i64_w, i32_w]
                                                        rfl
                                                      refine pure_ (i := 4) (N := some 42) (v := ?_) (a' := ?_) #[true, true, true, false, true, false, false, false, false] rfl rfl (any_of HT_.out (by kernel_rfl)) (fun _ _ _ h => h) (Or.inl ⟨by rfl, ?_⟩) ?_ ?_
                                                      rotate_left
                                                      · intro w'
                                                        go_simp
                                                        with_reducible rfl
                                                      rotate_left
                                                      · simp only [Act.put, List.setIfInBounds_toArray, List.set_cons_zero, List.set_cons_succ, i64_w, i32_w]
                                                        rfl
                                                      refine pure_ (i := 5) (N := some 43) (v := ?_) (a' := ?_) #[true, true, true, false, true, true, false, false, false] rfl rfl (any_of HT_.out (by kernel_rfl)) (fun _ _ _ h => h) (Or.inl ⟨by rfl, ?_⟩) ?_ ?_
                                                      rotate_left
                                                      · intro w'
                                                        go_simp
                                                        with_reducible rfl
                                                      rotate_left
                                                      · simp only [Act.put, List.setIfInBounds_toArray, List.set_cons_zero, List.set_cons_succ, i64_w, i32_w]
                                                        rfl
                                                      refine pure_ (i := 6) (N := some 44) (v := ?_) (a' := ?_) #[true, true, true, false, true, true, true, false, false] rfl rfl (any_of HT_.out (by kernel_rfl)) (fun _ _ _ h => h) (Or.inl ⟨by rfl, ?_⟩) ?_ ?_
                                                      rotate_left
                                                      · intro w'
                                                        go_simp
                                                        with_reducible rfl
                                                      rotate_left
                                                      · simp only [Act.put, List.setIfInBounds_toArray, List.set_cons_zero, List.set_cons_succ, i64_w, i32_w]
                                                        rfl
                                                      refine take_ (i := 3) (N := some 41) (v := ?_) (a' := ?_) #[true, true, true, true, true, true, true, false, false] rfl rfl (take_ofW HT_.out HW_.out (by kernel_rfl)) (fun _ _ _ h => h) (Or.inl ⟨by rfl, ?_⟩) hHeld ?_ ?_
                                                      rotate_left
                                                      · rintro w' ⟨s0, s1⟩
                                                        go_simp
                                                        with_reducible rfl
                                                      rotate_left
                                                      · simp only [Act.put, List.setIfInBounds_toArray, List.set_cons_zero, List.set_cons_succ, i64_w, i32_w]
                                                        rfl
                                                      refine take_ (i := 7) (N := some 45) (v := ?_) (a' := ?_) #[true, true, true, true, true, true, true, true, false] rfl rfl (take_ofW HT_.out HW_.out (by kernel_rfl)) (fun _ _ _ h => h) (Or.inl ⟨by rfl, ?_⟩) hHeld ?_ ?_
                                                      rotate_left
                                                      · rintro w' ⟨s0, s1⟩
                                                        go_simp
                                                        with_reducible rfl
                                                      rotate_left
                                                      · simp only [Act.put, List.setIfInBounds_toArray, List.set_cons_zero, List.set_cons_succ, i64_w, i32_w]
                                                        rfl
                                                      refine pure_ (i := 8) (N := some 46) (v := ?_) (a' := ?_) #[true, true, true, true, true, true, true, true, true] rfl rfl (any_of HT_.out (by kernel_rfl)) (fun _ _ _ h => h) (Or.inl ⟨by rfl, ?_⟩) ?_ ?_
                                                      rotate_left
                                                      · intro w'
                                                        go_simp
                                                        with_reducible rfl
                                                      rotate_left
                                                      · simp only [Act.put, List.setIfInBounds_toArray, List.set_cons_zero, List.set_cons_succ, i64_w, i32_w]
                                                        rfl
                                                      refine done_ (done_of HT_.out (by kernel_rfl)) ?_
                                                      try go_wp2
                                                      have n0_ := Aside0.mk (Kd.S_drew HO_5.out)
                                                      have n1_ := Aside0.mk (below_drew1 HB.out)
                                                      clear HO_5
                                                      clear HB
                                                      have HO_5 := n0_
                                                      have HB := n1_
                                                      clear n0_ n1_
                                                      have p214 : 0 ≤ (x6_1 : Int) := of_decide_eq_true (by first | (with_reducible assumption) | assumption)
                                                      have q214 : x6_1 < (x5_2.length : Int) := of_decide_eq_true (by first | (with_reducible assumption) | assumption)
                                                      obtain ⟨ad214, A214_0, c214_0, e214, hx214_0, hl214_0, hi214_0⟩ := at_L2 (Kd.S_reads' HO_5.out).2.2 x6_1 p214 q214
                                                      obtain rfl : (⟨go14, 0, none⟩ : Addr) = ad214 := (by injection e214)
                                                      obtain ⟨ce214, hce214, hMe214, hcc214⟩ := Kd.S_get HO_5.out [] x6_1 p214 (by first | exact q214 | exact of_decide_eq_true (by first | (with_reducible assumption) | assumption) | (have e_ := (Kd.S_reads' HO_5.out).1; omega))
                                                      obtain ⟨ve214_0, rfl, ge214_0⟩ := hMe214
                                                      have hv214_0 := hcc214 0 _ rfl
                                                      rw [Nat.add_zero, show ((Kd.slice 3 (Kd.int .i64))).sz = 1 from rfl, Nat.mul_one] at hv214_0
                                                      replace hv214_0 := Option.some.inj (hv214_0.symm.trans hx214_0)
                                                      rw [hv214_0] at ge214_0
                                                      have HL214_0 := Aside0.mk (show Kd.R (Kd.int .i64) 3 _ _ _ _ (rd_L2 x5_2 x6_1) from ge214_0)
                                                      clear hv214_0 ge214_0
                                                      have HX214_0 := Aside0.mk hx214_0
                                                      clear hcc214 hce214
                                                      (first | simp only [add_plain] at hx214_0 | simp only [add_at] at hx214_0 | simp only [Addr.add, Nat.zero_add] at hx214_0 | skip)
                                                      have HR214_0 := Aside0.mk hi214_0
                                                      have HC214_0 := Aside0.mk hl214_0
                                                      clear hi214_0 hl214_0
                                                      replace p214 := eq_true p214
                                                      replace q214 := eq_true q214
                                                      have p215 : 0 ≤ ((ji41) : Int) := of_decide_eq_true (by first | (with_reducible assumption) | assumption)
                                                      have q215 : (ji41) < (x5_2.length : Int) := of_decide_eq_true (by first | (with_reducible assumption) | assumption)
                                                      obtain ⟨ad215, A215_0, c215_0, e215, hx215_0, hl215_0, hi215_0⟩ := at_L2 (Kd.S_reads' HO_5.out).2.2 (ji41) p215 q215
                                                      obtain rfl : (⟨go14, 0, none⟩ : Addr) = ad215 := (by injection e215)
                                                      obtain ⟨ce215, hce215, hMe215, hcc215⟩ := Kd.S_get HO_5.out [] (ji41) p215 (by first | exact q215 | exact of_decide_eq_true (by first | (with_reducible assumption) | assumption) | (have e_ := (Kd.S_reads' HO_5.out).1; omega))
                                                      obtain ⟨ve215_0, rfl, ge215_0⟩ := hMe215
                                                      have hv215_0 := hcc215 0 _ rfl
                                                      rw [Nat.add_zero, show ((Kd.slice 3 (Kd.int .i64))).sz = 1 from rfl, Nat.mul_one] at hv215_0
                                                      replace hv215_0 := Option.some.inj (hv215_0.symm.trans hx215_0)
                                                      rw [hv215_0] at ge215_0
                                                      have HL215_0 := Aside0.mk (show Kd.R (Kd.int .i64) 3 _ _ _ _ (rd_L2 x5_2 (ji41)) from ge215_0)
                                                      clear hv215_0 ge215_0
                                                      have HX215_0 := Aside0.mk hx215_0
                                                      clear hcc215 hce215
                                                      (first | simp only [add_plain] at hx215_0 | simp only [add_at] at hx215_0 | simp only [Addr.add, Nat.zero_add] at hx215_0 | skip)
                                                      have HR215_0 := Aside0.mk hi215_0
                                                      have HC215_0 := Aside0.mk hl215_0
                                                      clear hi215_0 hl215_0
                                                      replace p215 := eq_true p215
                                                      replace q215 := eq_true q215
                                                      have p216 : 0 ≤ (x7_2 : Int) := of_decide_eq_true (by first | (with_reducible assumption) | assumption)
                                                      have q216 : x7_2 < ((rd_L2 x5_2 (ji41)).length : Int) := of_decide_eq_true (by first | (with_reducible assumption) | assumption)
                                                      obtain ⟨ad216, e216, hx216_0⟩ := Kd.at_int (by repeat (first | (with_reducible exact HR215_0.out) | (with_reducible refine Kd.C_alloc ?_ _) | (with_reducible refine Kd.C_drewN ?_ _) | (with_reducible refine Kd.C_drew ?_) | exact HR215_0.out)) x7_2 p216 q216
                                                      cases e216
                                                      replace p216 := eq_true p216
                                                      replace q216 := eq_true q216
                                                      have p217 : 0 ≤ (x6_1 : Int) := of_decide_eq_true (by first | (with_reducible assumption) | assumption)
                                                      have q217 : x6_1 < (x5_2.length : Int) := of_decide_eq_true (by first | (with_reducible assumption) | assumption)
                                                      obtain ⟨ad217, A217_0, c217_0, e217, hx217_0, hl217_0, hi217_0⟩ := at_L2 (Kd.S_reads' HO_5.out).2.2 x6_1 p217 q217
                                                      obtain rfl : (⟨go14, 0, none⟩ : Addr) = ad217 := (by injection e217)
                                                      obtain ⟨ce217, hce217, hMe217, hcc217⟩ := Kd.S_get HO_5.out [] x6_1 p217 (by first | exact q217 | exact of_decide_eq_true (by first | (with_reducible assumption) | assumption) | (have e_ := (Kd.S_reads' HO_5.out).1; omega))
                                                      obtain ⟨ve217_0, rfl, ge217_0⟩ := hMe217
                                                      have hv217_0 := hcc217 0 _ rfl
                                                      rw [Nat.add_zero, show ((Kd.slice 3 (Kd.int .i64))).sz = 1 from rfl, Nat.mul_one] at hv217_0
                                                      replace hv217_0 := Option.some.inj (hv217_0.symm.trans hx217_0)
                                                      rw [hv217_0] at ge217_0
                                                      have HL217_0 := Aside0.mk (show Kd.R (Kd.int .i64) 3 _ _ _ _ (rd_L2 x5_2 x6_1) from ge217_0)
                                                      clear hv217_0 ge217_0
                                                      have HX217_0 := Aside0.mk hx217_0
                                                      clear hcc217 hce217
                                                      (first | simp only [add_plain] at hx217_0 | simp only [add_at] at hx217_0 | simp only [Addr.add, Nat.zero_add] at hx217_0 | skip)
                                                      have HR217_0 := Aside0.mk hi217_0
                                                      have HC217_0 := Aside0.mk hl217_0
                                                      clear hi217_0 hl217_0
                                                      replace p217 := eq_true p217
                                                      replace q217 := eq_true q217
                                                      have ea_ := Option.some.inj (hx214_0.symm.trans hx217_0)
                                                      injection ea_ with ea_ en_ ec_
                                                      subst ea_
                                                      subst ec_
                                                      clear en_
                                                      have p218 : 0 ≤ ((ji45) : Int) := of_decide_eq_true (by first | (with_reducible assumption) | assumption)
                                                      have q218 : (ji45) < ((rd_L2 x5_2 x6_1).length : Int) := of_decide_eq_true (by first | (with_reducible assumption) | assumption)
                                                      obtain ⟨ad218, e218, hx218_0⟩ := Kd.at_int (by repeat (first | (with_reducible exact HR217_0.out) | (with_reducible refine Kd.C_alloc ?_ _) | (with_reducible refine Kd.C_drewN ?_ _) | (with_reducible refine Kd.C_drew ?_) | exact HR217_0.out)) (ji45) p218 q218
                                                      cases e218
                                                      replace p218 := eq_true p218
                                                      replace q218 := eq_true q218
                                                      have p50 : 0 ≤ (x7_2 : Int) := of_decide_eq_true (by first | (with_reducible assumption) | assumption)
                                                      have q50 : (x7_2 : Int) < (((rd_L2 x5_2 x6_1).length : Int) : Int) := of_decide_eq_true (by first | (with_reducible assumption) | assumption)
                                                      obtain ⟨go50, co50, eo50, gb50, gl50, cl50, HG50⟩ := Kd.R_form HL214_0.out (by omega)
                                                      (first | cases eo50 | (injection eo50 with ea_ en_ ec_; (first | subst ea_ | (injection ea_ with ea_; subst ea_)); subst ec_; clear en_))
                                                      have GB50 := Aside0.mk gb50
                                                      have GG50 := Aside0.mk HG50
                                                      clear gb50 gl50 HG50
                                                      (first | simp only [add_plain] at hx218_0 | skip)
                                                      obtain ⟨hx50_0, hf50_0⟩ := Kd.R_celln 0 HL214_0.out (x7_2 : Int) p50 q50
                                                      replace p50 := eq_true p50
                                                      replace q50 := eq_true q50
                                                      have hq53 : (x6_1 : Int) < (x5_2.length : Int) := (by have h_ : (x6_1 : Int) < ((x5_2.length : Int) : Int) := of_decide_eq_true (by first | (with_reducible assumption) | assumption); first | exact h_ | (have e_ := (Kd.S_reads' HO_5.out).1; omega) | simpa only [List.length_set, List.length_set] using h_)
                                                      obtain ⟨oki53, ce53, hcl53, hM53, hcc53, hok53, hbk53⟩ := Kd.S_borrow HO_5.out [] (x6_1 : Int) (of_decide_eq_true (by first | (with_reducible assumption) | assumption)) hq53
                                                      obtain ⟨ve53_0, rfl, ge53_0⟩ := hM53
                                                      have hv53 := hcc53 0 _ rfl
                                                      rw [Nat.add_zero, show ((Kd.slice 3 (Kd.int .i64))).sz = 1 from rfl, Nat.mul_one] at hv53
                                                      replace hv53 := Option.some.inj (hv53.symm.trans HX214_0.out)
                                                      subst hv53
                                                      clear hcc53 hcl53
                                                      replace ge53_0 := (show Kd.R (Kd.int .i64) 3 _ _ _ _ (rd_L2 x5_2 x6_1) from ge53_0)
                                                      have HP53 := Kd.R_putg ge53_0 (x7_2 : Int) ji48
                                                      rw [← Ny219.out] at HP53
                                                      have HS53 := hbk53 HP53.2 (fun k_ e_ => by injection e_ with e_; subst e_; exact ge53_0.1 _ rfl) (x' := y219) (Kd.M_row HP53.1)
                                                      rw [← Ny221.out] at HS53
                                                      have HQ53 := Aside0.mk HS53
                                                      clear HP53 HS53 hbk53 hok53
                                                      refine start_ (n := 24) (S := fun w' => w'.cell? ⟨go14, (x6_1).toNat, none⟩ = some (.slice (some ⟨go50, 0, none⟩) (rd_L2 x5_2 x6_1).length c214_0) ∧ w'.cell? ⟨go14, ((ji41)).toNat, none⟩ = some (.slice (some ad216) (rd_L2 x5_2 (ji41)).length c215_0) ∧ w'.cell? (ad216.add (x7_2).toNat) = some (.int .i64 (rd (rd_L2 x5_2 (ji41)) x7_2)) ∧ w'.cell? ⟨go14, (x6_1).toNat, none⟩ = some (.slice (some ⟨go50, 0, none⟩) (rd_L2 x5_2 x6_1).length c214_0) ∧ w'.cell? ⟨go50, ((ji45)).toNat, none⟩ = some (.int .i64 (rd (rd_L2 x5_2 x6_1) (ji45)))) (ds := [23]) #[false, false, false, false, false, false, false, false, false, false, false, false, false, false, false, false, false, false, false, false, false, false, false, false] (by kernel_rfl) rfl rfl ⟨hx214_0, hx215_0, hx216_0, hx217_0, hx218_0⟩ (fun hHeld => ?_); refine with_tabW tattingref7_Behind.tab11 tattingref7_Behind.bits11 (fun HT_ HW_ => ?_)
                                                      generalize w51.drew = w52 at HO_5 HB GG50 HL214_0 HL215_0 HL217_0 HQ53 HR214_0 HR215_0 HR217_0 HX214_0 HX215_0 HX217_0 hf50_0 hx214_0 hx215_0 hx216_0 hx217_0 hx218_0 hx50_0 hHeld ⊢
                                                      refine pure_ (i := 0) (N := some 63) (v := ?_) (a' := ?_) #[true, false, false, false, false, false, false, false, false, false, false, false, false, false, false, false, false, false, false, false, false, false, false, false] rfl rfl (any_of HT_.out (by kernel_rfl)) (fun _ _ _ h => h) (Or.inl ⟨by rfl, ?_⟩) ?_ ?_
                                                      rotate_left
                                                      · intro w'
                                                        go_simp
                                                        with_reducible rfl
                                                      rotate_left
                                                      · simp only [Act.put, List.setIfInBounds_toArray, List.set_cons_zero, List.set_cons_succ, i64_w, i32_w]
                                                        rfl
                                                      refine pure_ (i := 1) (N := some 64) (v := ?_) (a' := ?_) #[true, true, false, false, false, false, false, false, false, false, false, false, false, false, false, false, false, false, false, false, false, false, false, false] rfl rfl (any_of HT_.out (by kernel_rfl)) (fun _ _ _ h => h) (Or.inl ⟨by rfl, ?_⟩) ?_ ?_
                                                      rotate_left
                                                      · intro w'
                                                        go_simp
                                                        with_reducible rfl
                                                      rotate_left
                                                      · simp only [Act.put, List.setIfInBounds_toArray, List.set_cons_zero, List.set_cons_succ, i64_w, i32_w]
                                                        rfl
                                                      refine pure_ (i := 2) (N := some 65) (v := ?_) (a' := ?_) #[true, true, true, false, false, false, false, false, false, false, false, false, false, false, false, false, false, false, false, false, false, false, false, false] rfl rfl (any_of HT_.out (by kernel_rfl)) (fun _ _ _ h => h) (Or.inl ⟨by rfl, ?_⟩) ?_ ?_
                                                      rotate_left
                                                      · intro w'
                                                        go_simp
                                                        with_reducible rfl
                                                      rotate_left
                                                      · simp only [Act.put, List.setIfInBounds_toArray, List.set_cons_zero, List.set_cons_succ, i64_w, i32_w]
                                                        rfl
                                                      refine pure_ (i := 4) (N := some 67) (v := ?_) (a' := ?_) #[true, true, true, false, true, false, false, false, false, false, false, false, false, false, false, false, false, false, false, false, false, false, false, false] rfl rfl (any_of HT_.out (by kernel_rfl)) (fun _ _ _ h => h) (Or.inl ⟨by rfl, ?_⟩) ?_ ?_
                                                      rotate_left
                                                      · intro w'
                                                        go_simp
                                                        with_reducible rfl
                                                      rotate_left
                                                      · simp only [Act.put, List.setIfInBounds_toArray, List.set_cons_zero, List.set_cons_succ, i64_w, i32_w]
                                                        rfl
                                                      refine pure_ (i := 5) (N := some 68) (v := ?_) (a' := ?_) #[true, true, true, false, true, true, false, false, false, false, false, false, false, false, false, false, false, false, false, false, false, false, false, false] rfl rfl (any_of HT_.out (by kernel_rfl)) (fun _ _ _ h => h) (Or.inl ⟨by rfl, ?_⟩) ?_ ?_
                                                      rotate_left
                                                      · intro w'
                                                        go_simp
                                                        with_reducible rfl
                                                      rotate_left
                                                      · simp only [Act.put, List.setIfInBounds_toArray, List.set_cons_zero, List.set_cons_succ, i64_w, i32_w]
                                                        rfl
                                                      refine pure_ (i := 6) (N := some 69) (v := ?_) (a' := ?_) #[true, true, true, false, true, true, true, false, false, false, false, false, false, false, false, false, false, false, false, false, false, false, false, false] rfl rfl (any_of HT_.out (by kernel_rfl)) (fun _ _ _ h => h) (Or.inl ⟨by rfl, ?_⟩) ?_ ?_
                                                      rotate_left
                                                      · intro w'
                                                        go_simp
                                                        with_reducible rfl
                                                      rotate_left
                                                      · simp only [Act.put, List.setIfInBounds_toArray, List.set_cons_zero, List.set_cons_succ, i64_w, i32_w]
                                                        rfl
                                                      refine pure_ (i := 7) (N := some 70) (v := ?_) (a' := ?_) #[true, true, true, false, true, true, true, true, false, false, false, false, false, false, false, false, false, false, false, false, false, false, false, false] rfl rfl (any_of HT_.out (by kernel_rfl)) (fun _ _ _ h => h) (Or.inl ⟨by rfl, ?_⟩) ?_ ?_
                                                      rotate_left
                                                      · intro w'
                                                        go_simp
                                                        with_reducible rfl
                                                      rotate_left
                                                      · simp only [Act.put, List.setIfInBounds_toArray, List.set_cons_zero, List.set_cons_succ, i64_w, i32_w]
                                                        rfl
                                                      refine pure_ (i := 8) (N := some 71) (v := ?_) (a' := ?_) #[true, true, true, false, true, true, true, true, true, false, false, false, false, false, false, false, false, false, false, false, false, false, false, false] rfl rfl (any_of HT_.out (by kernel_rfl)) (fun _ _ _ h => h) (Or.inl ⟨by rfl, ?_⟩) ?_ ?_
                                                      rotate_left
                                                      · intro w'
                                                        go_simp
                                                        with_reducible rfl
                                                      rotate_left
                                                      · simp only [Act.put, List.setIfInBounds_toArray, List.set_cons_zero, List.set_cons_succ, i64_w, i32_w]
                                                        rfl
                                                      refine pure_ (i := 10) (N := some 73) (v := ?_) (a' := ?_) #[true, true, true, false, true, true, true, true, true, false, true, false, false, false, false, false, false, false, false, false, false, false, false, false] rfl rfl (any_of HT_.out (by kernel_rfl)) (fun _ _ _ h => h) (Or.inl ⟨by rfl, ?_⟩) ?_ ?_
                                                      rotate_left
                                                      · intro w'
                                                        go_simp
                                                        with_reducible rfl
                                                      rotate_left
                                                      · simp only [Act.put, List.setIfInBounds_toArray, List.set_cons_zero, List.set_cons_succ, i64_w, i32_w]
                                                        rfl
                                                      refine pure_ (i := 13) (N := some 76) (v := ?_) (a' := ?_) #[true, true, true, false, true, true, true, true, true, false, true, false, false, true, false, false, false, false, false, false, false, false, false, false] rfl rfl (any_of HT_.out (by kernel_rfl)) (fun _ _ _ h => h) (Or.inl ⟨by rfl, ?_⟩) ?_ ?_
                                                      rotate_left
                                                      · intro w'
                                                        go_simp
                                                        with_reducible rfl
                                                      rotate_left
                                                      · simp only [Act.put, List.setIfInBounds_toArray, List.set_cons_zero, List.set_cons_succ, i64_w, i32_w]
                                                        rfl
                                                      refine pure_ (i := 14) (N := some 77) (v := ?_) (a' := ?_) #[true, true, true, false, true, true, true, true, true, false, true, false, false, true, true, false, false, false, false, false, false, false, false, false] rfl rfl (any_of HT_.out (by kernel_rfl)) (fun _ _ _ h => h) (Or.inl ⟨by rfl, ?_⟩) ?_ ?_
                                                      rotate_left
                                                      · intro w'
                                                        go_simp
                                                        with_reducible rfl
                                                      rotate_left
                                                      · simp only [Act.put, List.setIfInBounds_toArray, List.set_cons_zero, List.set_cons_succ, i64_w, i32_w]
                                                        rfl
                                                      refine pure_ (i := 15) (N := some 78) (v := ?_) (a' := ?_) #[true, true, true, false, true, true, true, true, true, false, true, false, false, true, true, true, false, false, false, false, false, false, false, false] rfl rfl (any_of HT_.out (by kernel_rfl)) (fun _ _ _ h => h) (Or.inl ⟨by rfl, ?_⟩) ?_ ?_
                                                      rotate_left
                                                      · intro w'
                                                        go_simp
                                                        with_reducible rfl
                                                      rotate_left
                                                      · simp only [Act.put, List.setIfInBounds_toArray, List.set_cons_zero, List.set_cons_succ, i64_w, i32_w]
                                                        rfl
                                                      refine pure_ (i := 17) (N := some 80) (v := ?_) (a' := ?_) #[true, true, true, false, true, true, true, true, true, false, true, false, false, true, true, true, false, true, false, false, false, false, false, false] rfl rfl (any_of HT_.out (by kernel_rfl)) (fun _ _ _ h => h) (Or.inl ⟨by rfl, ?_⟩) ?_ ?_
                                                      rotate_left
                                                      · intro w'
                                                        go_simp
                                                        with_reducible rfl
                                                      rotate_left
                                                      · simp only [Act.put, List.setIfInBounds_toArray, List.set_cons_zero, List.set_cons_succ, i64_w, i32_w]
                                                        rfl
                                                      refine pure_ (i := 18) (N := some 81) (v := ?_) (a' := ?_) #[true, true, true, false, true, true, true, true, true, false, true, false, false, true, true, true, false, true, true, false, false, false, false, false] rfl rfl (any_of HT_.out (by kernel_rfl)) (fun _ _ _ h => h) (Or.inl ⟨by rfl, ?_⟩) ?_ ?_
                                                      rotate_left
                                                      · intro w'
                                                        go_simp
                                                        with_reducible rfl
                                                      rotate_left
                                                      · simp only [Act.put, List.setIfInBounds_toArray, List.set_cons_zero, List.set_cons_succ, i64_w, i32_w]
                                                        rfl
                                                      refine take_ (i := 3) (N := some 66) (v := ?_) (a' := ?_) #[true, true, true, true, true, true, true, true, true, false, true, false, false, true, true, true, false, true, true, false, false, false, false, false] rfl rfl (take_ofW HT_.out HW_.out (by kernel_rfl)) (fun _ _ _ h => h) (Or.inl ⟨by rfl, ?_⟩) hHeld ?_ ?_
                                                      rotate_left
                                                      · rintro w' ⟨s0, s1, s2, s3, s4⟩
                                                        go_simp
                                                        with_reducible rfl
                                                      rotate_left
                                                      · simp only [Act.put, List.setIfInBounds_toArray, List.set_cons_zero, List.set_cons_succ, i64_w, i32_w]
                                                        rfl
                                                      refine take_ (i := 9) (N := some 72) (v := ?_) (a' := ?_) #[true, true, true, true, true, true, true, true, true, true, true, false, false, true, true, true, false, true, true, false, false, false, false, false] rfl rfl (take_ofW HT_.out HW_.out (by kernel_rfl)) (fun _ _ _ h => h) (Or.inl ⟨by rfl, ?_⟩) hHeld ?_ ?_
                                                      rotate_left
                                                      · rintro w' ⟨s0, s1, s2, s3, s4⟩
                                                        go_simp
                                                        with_reducible rfl
                                                      rotate_left
                                                      · simp only [Act.put, List.setIfInBounds_toArray, List.set_cons_zero, List.set_cons_succ, i64_w, i32_w]
                                                        rfl
                                                      refine pure_ (i := 11) (N := some 74) (v := ?_) (a' := ?_) #[true, true, true, true, true, true, true, true, true, true, true, true, false, true, true, true, false, true, true, false, false, false, false, false] rfl rfl (any_of HT_.out (by kernel_rfl)) (fun _ _ _ h => h) (Or.inl ⟨by rfl, ?_⟩) ?_ ?_
                                                      rotate_left
                                                      · intro w'
                                                        go_simp
                                                        with_reducible rfl
                                                      rotate_left
                                                      · simp only [Act.put, List.setIfInBounds_toArray, List.set_cons_zero, List.set_cons_succ, i64_w, i32_w]
                                                        rfl
                                                      refine take_ (i := 12) (N := some 75) (v := ?_) (a' := ?_) #[true, true, true, true, true, true, true, true, true, true, true, true, true, true, true, true, false, true, true, false, false, false, false, false] rfl rfl (take_ofW HT_.out HW_.out (by kernel_rfl)) (fun _ _ _ h => h) (Or.inl ⟨by rfl, ?_⟩) hHeld ?_ ?_
                                                      rotate_left
                                                      · rintro w' ⟨s0, s1, s2, s3, s4⟩
                                                        go_simp
                                                        with_reducible rfl
                                                      rotate_left
                                                      · simp only [Act.put, List.setIfInBounds_toArray, List.set_cons_zero, List.set_cons_succ, i64_w, i32_w]
                                                        rfl
                                                      refine take_ (i := 16) (N := some 79) (v := ?_) (a' := ?_) #[true, true, true, true, true, true, true, true, true, true, true, true, true, true, true, true, true, true, true, false, false, false, false, false] rfl rfl (take_ofW HT_.out HW_.out (by kernel_rfl)) (fun _ _ _ h => h) (Or.inl ⟨by rfl, ?_⟩) hHeld ?_ ?_
                                                      rotate_left
                                                      · rintro w' ⟨s0, s1, s2, s3, s4⟩
                                                        go_simp
                                                        with_reducible rfl
                                                      rotate_left
                                                      · simp only [Act.put, List.setIfInBounds_toArray, List.set_cons_zero, List.set_cons_succ, i64_w, i32_w]
                                                        rfl
                                                      refine pure_ (i := 19) (N := some 82) (v := ?_) (a' := ?_) #[true, true, true, true, true, true, true, true, true, true, true, true, true, true, true, true, true, true, true, true, false, false, false, false] rfl rfl (any_of HT_.out (by kernel_rfl)) (fun _ _ _ h => h) (Or.inl ⟨by rfl, ?_⟩) ?_ ?_
                                                      rotate_left
                                                      · intro w'
                                                        go_simp
                                                        with_reducible rfl
                                                      rotate_left
                                                      · simp only [Act.put, List.setIfInBounds_toArray, List.set_cons_zero, List.set_cons_succ, i64_w, i32_w]
                                                        rfl
                                                      refine take_ (i := 20) (N := some 83) (v := ?_) (a' := ?_) #[true, true, true, true, true, true, true, true, true, true, true, true, true, true, true, true, true, true, true, true, true, false, false, false] rfl rfl (take_ofW HT_.out HW_.out (by kernel_rfl)) (fun _ _ _ h => h) (Or.inl ⟨by rfl, ?_⟩) hHeld ?_ ?_
                                                      rotate_left
                                                      · rintro w' ⟨s0, s1, s2, s3, s4⟩
                                                        go_simp
                                                        with_reducible rfl
                                                      rotate_left
                                                      · simp only [Act.put, List.setIfInBounds_toArray, List.set_cons_zero, List.set_cons_succ, i64_w, i32_w]
                                                        rfl
                                                      refine pure_ (i := 21) (N := some 84) (v := ?_) (a' := ?_) #[true, true, true, true, true, true, true, true, true, true, true, true, true, true, true, true, true, true, true, true, true, true, false, false] rfl rfl (any_of HT_.out (by kernel_rfl)) (fun _ _ _ h => h) (Or.inl ⟨by rfl, ?_⟩) ?_ ?_
                                                      rotate_left
                                                      · intro w'
                                                        go_simp
                                                        with_reducible rfl
                                                      rotate_left
                                                      · simp only [Act.put, List.setIfInBounds_toArray, List.set_cons_zero, List.set_cons_succ, i64_w, i32_w]
                                                        rfl
                                                      refine pure_ (i := 22) (N := some 85) (v := ?_) (a' := ?_) #[true, true, true, true, true, true, true, true, true, true, true, true, true, true, true, true, true, true, true, true, true, true, true, false] rfl rfl (any_of HT_.out (by kernel_rfl)) (fun _ _ _ h => h) (Or.inl ⟨by rfl, ?_⟩) ?_ ?_
                                                      rotate_left
                                                      · intro w'
                                                        go_simp
                                                        with_reducible rfl
                                                      rotate_left
                                                      · simp only [Act.put, List.setIfInBounds_toArray, List.set_cons_zero, List.set_cons_succ, i64_w, i32_w]
                                                        rfl
                                                      refine last_ (i := 23) (N := none) #[true, true, true, true, true, true, true, true, true, true, true, true, true, true, true, true, true, true, true, true, true, true, true, true] rfl rfl (one_of HT_.out (by kernel_rfl)) (by decide) (fun K hK => ?_)
                                                      refine skip_ (w1 := ?_) (by rfl) rfl ?_ ?_
                                                      rotate_left
                                                      · go_simp
                                                        rfl
                                                      refine hK.out _ _ ?_
                                                      clear hK K
                                                      refine done_ (done_of HT_.out (by kernel_rfl)) ?_
                                                      try go_wp2
                                                      (try simp only [← hl5_2])
                                                      go_roundg kj18
                                                      case measure => have := HK1.out; have := HK2.out; have := HJ18.out; omega
                                                      case rel => exact ⟨(y221), (wrap64 (x7_2 - 1)), (by first | rfl | (simp; done) | (simp [*]; done)), H', ⟨by have := HK1.out; have := HK2.out; have := HJ18.out; omega⟩, ⟨by (try simp only [hl5_2]); (with_reducible repeat (first | apply Kd.S_alloc | apply Kd.S_drewN | apply Kd.S_drew)); exact HQ53.out⟩, ⟨by repeat (first | (with_reducible first | exact HB.out | apply below_alloc | apply pw_below_drewN | apply below_drew1 | refine below_set ?_ GB50.out) | exact HB.out)⟩⟩
                                                    · rw [if_neg c49] at H
                                                      exact absurd H (by simp)
                                                  · rw [if_neg c47] at H
                                                    exact absurd H (by simp)
                                                · rw [if_neg c46] at H
                                                  exact absurd H (by simp)
                                              · rw [if_neg c44] at H
                                                exact absurd H (by simp)
                                            · rw [if_neg c43] at H
                                              exact absurd H (by simp)
                                          · rw [if_neg c42] at H
                                            exact absurd H (by simp)
                                        · rw [if_neg c40] at H
                                          exact absurd H (by simp)
                                    · rw [if_neg c25] at H
                                      exact absurd H (by simp)
                                  · rw [if_neg c24] at H
                                    exact absurd H (by simp)
                                · rw [if_neg c23] at H
                                  exact absurd H (by simp)
                              · rw [if_neg c22] at H
                                exact absurd H (by simp)
                            · replace c21 := Bool.eq_false_iff.mpr c21
                              subst c21
                              have H1 : (tattingref7_Behind.l0 kj18 l0 l1 x5_2 (wrap64 (x6_1 - 1))) = some r := by rw [if_neg (show ¬ (false = true) by decide)] at H; exact H
                              clear H
                              have H := H1
                              clear H1
                              have H' := Aside0.mk H
                              clear H
                              go_wp2
                              (try simp only [← hl5_2])
                              go_roundg kj18
                              case measure => have := HK1.out; have := HK2.out; have := HJ18.out; omega
                              case rel => exact ⟨(x5_2), (wrap64 (x6_1 - 1)), (by first | rfl | (simp; done) | (simp [*]; done)), H', ⟨by have := HK1.out; have := HK2.out; have := HJ18.out; omega⟩, ⟨by (try simp only [hl5_2]); (with_reducible repeat (first | apply Kd.S_alloc | apply Kd.S_drewN | apply Kd.S_drew)); exact HO_5.out⟩, ⟨by repeat (first | (with_reducible first | exact HB.out | apply below_alloc | apply pw_below_drewN | apply below_drew1) | exact HB.out)⟩⟩
                  · rw [if_neg c13] at H
                    exact absurd H (by simp)
                · rw [if_neg c12] at H
                  exact absurd H (by simp)
              · rw [if_neg c11] at H
                exact absurd H (by simp)
            · rw [if_neg c10] at H
              exact absurd H (by simp)
          · rw [if_neg c8] at H
            have c8b0 : decide (0 ≤ x6_1) = false := decide_eq_false c8
            clear c8
            obtain rfl := Option.some.inj H
            go_wp2
            go_ret
            exact ⟨_, by first | rfl | (simp [errW_none, errW_some] <;> rfl) | (simp only [← hji3]; first | rfl | (simp [errW_none, errW_some] <;> rfl)) | (simp [*, errW_none, errW_some] <;> rfl), by (with_reducible repeat (first | apply Kd.S_alloc | apply Kd.S_drewN | apply Kd.S_drew)); exact HO_5.out, by repeat (first | (with_reducible first | exact HB.out | apply below_alloc | apply pw_below_drewN | apply below_drew1) | exact HB.out)⟩
    · rw [if_neg c5] at H
      exact absurd H (by simp)
  · rw [if_neg c4] at H
    exact absurd H (by simp)

end Go.Proofs.Ytkfgkefkmofdcaa.PV
