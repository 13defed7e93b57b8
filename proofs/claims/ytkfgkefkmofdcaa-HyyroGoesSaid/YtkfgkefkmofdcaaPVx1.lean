-- Written by a program of this repo (wip/pprint.py) over the kit's print; it is no print of the kit's own.
import Derived.Test.YtkfgkefkmofdcaaPVx0
namespace Go.Proofs.Ytkfgkefkmofdcaa.PV
open Go.Proofs.Ytkfgkefkmofdcaa.Man
open Go.RowKit Go.Proofs.YtkfgkefkmofdcaaW.PrintWords Go.Proofs.YtkfgkefkmofdcaaW.PrintLast Go.Proofs.YtkfgkefkmofdcaaW.PrintMore
attribute [local go_sem] max2_int min2_int max_two min_two max_three min_three max_four min_four   -- for this text's walks alone
set_option linter.unusedVariables false
set_option linter.unusedSimpArgs false

/-! ### vec_width: function 53 -/
def vec_width.f (a0 : Int) : Option (Int) := some (mn (mx a0 0) 1048576)
set_option maxHeartbeats 8000000 in
set_option maxRecDepth 100000 in
theorem vec_width.calls (a0 : Int) (r : Int) (w : World) (h : vec_width.f a0 = some r) :
    Calls Try.prog 53 #[.int .i64 a0] w fun e w' => e = .returned (.int .i64 r) ∧ Below w.heap.size w w' := by
  have HB := Aside0.mk (Below.refl w.heap.size w)
  have H : (some (mn (mx a0 0) 1048576)) = some r := h
  clear h
  obtain ⟨ji2, hji2⟩ : ∃ j_ : Int, (mx a0 0) = j_ := ⟨_, rfl⟩
  replace H : (some (mn (ji2) 1048576)) = some r := by first | (rw [hji2] at H; exact H) | (simp only [hji2] at H ⊢; exact H)
  (try (have hji2l : 0 ≤ ji2 := by (rw [← hji2]; unfold mx; (repeat' split) <;> omega)))
  (try (have hji2m : 0 ≤ ji2 := by omega))
  have hji2_ : (if a0 < 0 then 0 else a0) = ji2 := hji2
  obtain ⟨ji3, hji3⟩ : ∃ j_ : Int, (mn (ji2) 1048576) = j_ := ⟨_, rfl⟩
  replace H : (some ji3) = some r := by first | (rw [hji3] at H; exact H) | (simp only [hji3] at H ⊢; exact H)
  have hji3_ : (if 1048576 < (ji2) then 1048576 else (ji2)) = ji3 := hji3
  obtain rfl := Option.some.inj H
  go_enter Try.func53, Try.ntmps53
  go_wp2
  go_ret
  exact ⟨by first | rfl | (simp [errW_none, errW_some] <;> rfl) | (simp only [← hji2, ← hji3]; first | rfl | (simp [errW_none, errW_some] <;> rfl)) | (simp [*, errW_none, errW_some] <;> rfl), by repeat (first | (with_reducible first | exact HB.out | apply below_alloc | apply pw_below_drewN | apply below_drew1) | exact HB.out)⟩

/-! ### vec_Words: function 42 -/
def vec_Words.f (a0 : Int) : Option (Int) := (vec_width.f a0).bind fun t101 => (some (wrap64 (Int.tdiv (wrap64 ((wrap64 (t101 + 64)) - 1)) 64)))
set_option maxHeartbeats 8000000 in
set_option maxRecDepth 100000 in
theorem vec_Words.calls (a0 : Int) (r : Int) (w : World) (h : vec_Words.f a0 = some r) :
    Calls Try.prog 42 #[.int .i64 a0] w fun e w' => e = .returned (.int .i64 r) ∧ Below w.heap.size w w' := by
  have HB := Aside0.mk (Below.refl w.heap.size w)
  have H : ((vec_width.f a0).bind fun t101 => (some (wrap64 (Int.tdiv (wrap64 ((wrap64 (t101 + 64)) - 1)) 64)))) = some r := h
  clear h
  replace H := Option.bind_eq_some_iff.mp H
  obtain ⟨t101, A20, H⟩ := H
  replace H : (some (wrap64 (Int.tdiv (wrap64 ((wrap64 (t101 + 64)) - 1)) 64))) = some r := H
  have A2 := Aside0.mk A20
  clear A20
  obtain rfl := Option.some.inj H
  go_enter Try.func42, Try.ntmps42
  go_wp2_with (first | ((with_reducible refine gate_callee (f := 53) rfl ?_); refine goesL_ (some 4) rfl rfl Try.func53 (by kernel_rfl) rfl #[.int .i64 a0] rfl (by (try simp only [List.map_toArray, List.map_cons, List.map_nil]); first | done | rfl | (simp only [List.length_drop, List.length_take]; rfl)) ?_; (with_reducible refine (vec_width.calls a0 t101 _ A2.out).mono ?_); rintro e w3 ⟨rfl, hb⟩; refine ⟨_, rfl, ?_⟩; have n0_ := Aside0.mk (below_step (by repeat (first | (with_reducible first | exact HB.out | apply below_alloc | apply pw_below_drewN | apply below_drew1) | exact HB.out)) hb); clear HB; have HB := n0_; clear n0_; (try clear hb); (try clear hb2); (try clear hk); (try clear hi)))
  go_ret
  exact ⟨by first | rfl | (simp [errW_none, errW_some] <;> rfl) | (simp [*, errW_none, errW_some] <;> rfl), by repeat (first | (with_reducible first | exact HB.out | apply below_alloc | apply pw_below_drewN | apply below_drew1) | exact HB.out)⟩

/-! ### vec_at: function 49 -/
def vec_at.f (l0 : List Int) (a1 : Int) : Option (Int) := if a1 < (l0.length : Int) then (if 0 ≤ a1 then (some (rd l0 a1)) else (none)) else (some 0)
set_option maxHeartbeats 8000000 in
set_option maxRecDepth 100000 in
theorem vec_at.calls (A0 : Option Addr) (c0 : Nat) (l0 : List Int) (a1 : Int) (r : Int) (w : World) (hr0 : Kd.C (Kd.int .u64) w A0 l0.length l0) (hc0 : l0.length ≤ c0) (h : vec_at.f l0 a1 = some r) :
    Calls Try.prog 49 #[.slice A0 l0.length c0, .int .i64 a1] w fun e w' => e = .returned (.int .u64 r) ∧ Drawn0 w w' := by
  have HR0 := Aside0.mk hr0
  have HC0 := Aside0.mk hc0
  clear hr0 hc0
  have H : (if a1 < (l0.length : Int) then (if 0 ≤ a1 then (some (rd l0 a1)) else (none)) else (some 0)) = some r := h
  clear h
  by_cases c3 : a1 < (l0.length : Int)
  · rw [if_pos c3] at H
    have c3b0 : decide (a1 < (l0.length : Int)) = true := decide_eq_true c3
    clear c3
    by_cases c4 : 0 ≤ a1
    · rw [if_pos c4] at H
      have c4b0 : decide (0 ≤ a1) = true := decide_eq_true c4
      clear c4
      obtain rfl := Option.some.inj H
      have p102 : 0 ≤ (a1 : Int) := of_decide_eq_true (by first | (with_reducible assumption) | assumption)
      have q102 : a1 < (l0.length : Int) := of_decide_eq_true (by first | (with_reducible assumption) | assumption)
      obtain ⟨ad102, e102, hx102_0⟩ := Kd.at_int HR0.out a1 p102 q102
      cases e102
      replace p102 := eq_true p102
      replace q102 := eq_true q102
      go_enter Try.func49, Try.ntmps49
      go_wp2
      go_ret
      exact ⟨by first | rfl | (simp; done) | (simp [*]; done), by repeat (first | exact Drawn0.refl _ | apply Drawn0.step)⟩
    · rw [if_neg c4] at H
      exact absurd H (by simp)
  · rw [if_neg c3] at H
    have c3b0 : decide (a1 < (l0.length : Int)) = false := decide_eq_false c3
    clear c3
    obtain rfl := Option.some.inj H
    go_enter Try.func49, Try.ntmps49
    go_wp2
    go_ret
    exact ⟨by first | rfl | (simp; done) | (simp [*]; done), by repeat (first | exact Drawn0.refl _ | apply Drawn0.step)⟩

/-! ### vec_mask: function 50 -/
def vec_mask.f (a0 : Int) (a1 : Int) : Option (Int) := (vec_width.f a0).bind fun t103 => (if (wrap64 (t103 - (wrap64 (64 * a1)))) ≥ 64 then (some 18446744073709551615) else (if 0 ≤ (IntKind.u64.wrap (wrap64 (t103 - (wrap64 (64 * a1))))) then (some (IntKind.u64.wrap ((shl .u64 1 (IntKind.u64.wrap (wrap64 (t103 - (wrap64 (64 * a1)))))) - 1))) else (none)))
set_option maxHeartbeats 8000000 in
set_option maxRecDepth 100000 in
theorem vec_mask.calls (a0 : Int) (a1 : Int) (r : Int) (w : World) (h : vec_mask.f a0 a1 = some r) :
    Calls Try.prog 50 #[.int .i64 a0, .int .i64 a1] w fun e w' => e = .returned (.int .u64 r) ∧ Below w.heap.size w w' := by
  have HB := Aside0.mk (Below.refl w.heap.size w)
  have H : ((vec_width.f a0).bind fun t103 => (if (wrap64 (t103 - (wrap64 (64 * a1)))) ≥ 64 then (some 18446744073709551615) else (if 0 ≤ (IntKind.u64.wrap (wrap64 (t103 - (wrap64 (64 * a1))))) then (some (IntKind.u64.wrap ((shl .u64 1 (IntKind.u64.wrap (wrap64 (t103 - (wrap64 (64 * a1)))))) - 1))) else (none)))) = some r := h
  clear h
  replace H := Option.bind_eq_some_iff.mp H
  obtain ⟨t103, A30, H⟩ := H
  replace H : (if (wrap64 (t103 - (wrap64 (64 * a1)))) ≥ 64 then (some 18446744073709551615) else (if 0 ≤ (IntKind.u64.wrap (wrap64 (t103 - (wrap64 (64 * a1))))) then (some (IntKind.u64.wrap ((shl .u64 1 (IntKind.u64.wrap (wrap64 (t103 - (wrap64 (64 * a1)))))) - 1))) else (none))) = some r := H
  have A3 := Aside0.mk A30
  clear A30
  by_cases c4 : (wrap64 (t103 - (wrap64 (64 * a1)))) ≥ 64
  · rw [if_pos c4] at H
    have c4b0 : decide (64 ≤ (wrap64 (t103 - (wrap64 (64 * a1))))) = true := decide_eq_true c4
    clear c4
    obtain rfl := Option.some.inj H
    go_enter Try.func50, Try.ntmps50
    go_wp2_with (first | ((with_reducible refine gate_callee (f := 53) rfl ?_); refine goesL_ (some 7) rfl rfl Try.func53 (by kernel_rfl) rfl #[.int .i64 a0] rfl (by (try simp only [List.map_toArray, List.map_cons, List.map_nil]); first | done | rfl | (simp only [List.length_drop, List.length_take]; rfl)) ?_; (with_reducible refine (vec_width.calls a0 t103 _ A3.out).mono ?_); rintro e w5 ⟨rfl, hb⟩; refine ⟨_, rfl, ?_⟩; have n0_ := Aside0.mk (below_step (by repeat (first | (with_reducible first | exact HB.out | apply below_alloc | apply pw_below_drewN | apply below_drew1) | exact HB.out)) hb); clear HB; have HB := n0_; clear n0_; (try clear hb); (try clear hb2); (try clear hk); (try clear hi)))
    go_ret
    exact ⟨by first | rfl | (simp [errW_none, errW_some] <;> rfl) | (simp [*, errW_none, errW_some] <;> rfl), by repeat (first | (with_reducible first | exact HB.out | apply below_alloc | apply pw_below_drewN | apply below_drew1) | exact HB.out)⟩
  · rw [if_neg c4] at H
    have c4b0 : decide (64 ≤ (wrap64 (t103 - (wrap64 (64 * a1))))) = false := decide_eq_false c4
    clear c4
    obtain ⟨ji6, hji6⟩ : ∃ j_ : Int, (IntKind.u64.wrap (wrap64 (t103 - (wrap64 (64 * a1))))) = j_ := ⟨_, rfl⟩
    replace H : (if 0 ≤ (ji6) then (some (IntKind.u64.wrap ((shl .u64 1 (ji6)) - 1))) else (none)) = some r := by first | (rw [hji6] at H; exact H) | (simp only [hji6] at H ⊢; exact H)
    (try rw [hji6] at A3)
    by_cases c7 : 0 ≤ (ji6)
    · rw [if_pos c7] at H
      have c7b0 := eq_true c7
      have c7b1 : decide (0 ≤ (ji6)) = true := decide_eq_true c7
      clear c7
      obtain ⟨ji8, hji8⟩ : ∃ j_ : Int, (shl .u64 1 (ji6)) = j_ := ⟨_, rfl⟩
      replace H : (some (IntKind.u64.wrap ((ji8) - 1))) = some r := by first | (rw [hji8] at H; exact H) | (simp only [hji8] at H ⊢; exact H)
      (try rw [hji8] at A3)
      have hji8_ : (IntKind.u64.wrap (1 * 2 ^ min (ji6).toNat 64)) = ji8 := hji8
      have hji8z : (ji6) ≤ 64 → (IntKind.u64.wrap (1 * 2 ^ (ji6).toNat)) = ji8 := shl_small hji8
      have hji8u : (IntKind.u64.wrap (2 ^ min (ji6).toNat 64)) = ji8 := by have h_ := hji8_; rw [Int.one_mul] at h_; exact h_
      have hji8v : (ji6) ≤ 64 → (IntKind.u64.wrap (2 ^ (ji6).toNat)) = ji8 := fun hle_ => by have h_ := hji8z hle_; rw [Int.one_mul] at h_; exact h_
      obtain rfl := Option.some.inj H
      go_enter Try.func50, Try.ntmps50
      go_wp2_with (first | ((with_reducible refine gate_callee (f := 53) rfl ?_); refine goesL_ (some 7) rfl rfl Try.func53 (by kernel_rfl) rfl #[.int .i64 a0] rfl (by (try simp only [List.map_toArray, List.map_cons, List.map_nil]); first | done | rfl | (simp only [List.length_drop, List.length_take]; rfl)) ?_; (with_reducible refine (vec_width.calls a0 t103 _ A3.out).mono ?_); rintro e w9 ⟨rfl, hb⟩; refine ⟨_, rfl, ?_⟩; have n0_ := Aside0.mk (below_step (by repeat (first | (with_reducible first | exact HB.out | apply below_alloc | apply pw_below_drewN | apply below_drew1) | exact HB.out)) hb); clear HB; have HB := n0_; clear n0_; (try clear hb); (try clear hb2); (try clear hk); (try clear hi)))
      go_ret
      exact ⟨by first | rfl | (simp [errW_none, errW_some] <;> rfl) | (simp only [← hji6, ← hji8]; first | rfl | (simp [errW_none, errW_some] <;> rfl)) | (simp [*, errW_none, errW_some] <;> rfl), by repeat (first | (with_reducible first | exact HB.out | apply below_alloc | apply pw_below_drewN | apply below_drew1) | exact HB.out)⟩
    · rw [if_neg c7] at H
      exact absurd H (by simp)

/-! ### vec_Fit: function 33 -/
def vec_Fit.l0 : Nat → List Int → Int → List Int → Int → Int → Option (List Int)
  | 0, _, _, _, _, _ => none
  | k + 1, x0, x1, x5, x11, x12 => if x12 < x11 then ((vec_at.f x0 x12).bind fun t108 => ((vec_mask.f x1 x12).bind fun t109 => (if 0 ≤ x12 then (if x12 < (x5.length : Int) then (vec_Fit.l0 k x0 x1 (x5.set (x12 : Int).toNat (Go.bits .and .u64 t108 t109)) x11 (wrap64 (x12 + 1))) else (none)) else (none)))) else (some x5)
def vec_Fit.f (k : Nat) (l0 : List Int) (a1 : Int) : Option (List Int) := (vec_Words.f a1).bind fun t104 => (if 0 ≤ t104 then (if (t104 : Int).toNat ≤ 35184372088832 then ((some (List.replicate (t104 : Int).toNat 0 : List Int)).bind fun y105 => (vec_Fit.l0 k l0 a1 y105 (y105.length : Int) 0)) else (none)) else (none))
theorem vec_Fit.mono_l : ∀ k, (∀ y0 y1 y2 y3 y4, LeO (vec_Fit.l0 k y0 y1 y2 y3 y4) (vec_Fit.l0 (k + 1) y0 y1 y2 y3 y4))
  | 0 => fun _ _ _ _ _ r h => by simp [vec_Fit.l0] at h
  | k + 1 => by
    have ih0 := vec_Fit.mono_l k
    · intro y0 y1 y2 y3 y4
      unfold vec_Fit.l0
      repeat' first
      | (with_reducible exact ih0 _ _ _ _ _)
      | (with_reducible exact LeO.refl _)
      | (with_reducible exact LeO.none _)
      | (with_reducible refine LeO.ite ?_ ?_)
      | (with_reducible refine LeO.bind ?_ (fun _ => ?_))
      | exact ih0 _ _ _ _ _
      | exact LeO.none _
      | refine LeO.ite ?_ ?_
      | refine LeO.bind ?_ (fun _ => ?_)
theorem vec_Fit.mono : ∀ a0 a1 k, LeO (vec_Fit.f k a0 a1) (vec_Fit.f (k + 1) a0 a1) := by
  intro a0 a1 k
  have ih0 := vec_Fit.mono_l k
  unfold vec_Fit.f
  repeat' first
      | (with_reducible exact ih0 _ _ _ _ _)
      | (with_reducible exact LeO.refl _)
      | (with_reducible exact LeO.none _)
      | (with_reducible refine LeO.ite ?_ ?_)
      | (with_reducible refine LeO.bind ?_ (fun _ => ?_))
      | exact ih0 _ _ _ _ _
      | exact LeO.none _
      | refine LeO.ite ?_ ?_
      | refine LeO.bind ?_ (fun _ => ?_)
set_option maxHeartbeats 8000000 in
set_option maxRecDepth 100000 in
theorem vec_Fit.calls (k : Nat) (A0 : Option Addr) (c0 : Nat) (l0 : List Int) (a1 : Int) (r : List Int) (w : World) (hr0 : Kd.C (Kd.int .u64) w A0 l0.length l0) (hc0 : l0.length ≤ c0) (h : vec_Fit.f k l0 a1 = some r) :
    Calls Try.prog 33 #[.slice A0 l0.length c0, .int .i64 a1] w fun e w' => ∃ v0_ : Value, e = .returned (v0_) ∧ Kd.R (Kd.int .u64) 36 w' w.heap.size (fun _ => True) v0_ r ∧ Below w.heap.size w w' := by
  have HR0 := Aside0.mk hr0
  have HC0 := Aside0.mk hc0
  clear hr0 hc0
  have HB := Aside0.mk (Below.refl w.heap.size w)
  have H : ((vec_Words.f a1).bind fun t104 => (if 0 ≤ t104 then (if (t104 : Int).toNat ≤ 35184372088832 then ((some (List.replicate (t104 : Int).toNat 0 : List Int)).bind fun y105 => (vec_Fit.l0 k l0 a1 y105 (y105.length : Int) 0)) else (none)) else (none))) = some r := h
  clear h
  replace H := Option.bind_eq_some_iff.mp H
  obtain ⟨t104, A30, H⟩ := H
  replace H : (if 0 ≤ t104 then (if (t104 : Int).toNat ≤ 35184372088832 then ((some (List.replicate (t104 : Int).toNat 0 : List Int)).bind fun y105 => (vec_Fit.l0 k l0 a1 y105 (y105.length : Int) 0)) else (none)) else (none)) = some r := H
  have A3 := Aside0.mk A30
  clear A30
  by_cases c4 : 0 ≤ t104
  · rw [if_pos c4] at H
    have c4b0 := eq_true c4
    have c4b1 : decide (0 ≤ t104) = true := decide_eq_true c4
    clear c4
    by_cases c5 : (t104 : Int).toNat ≤ 35184372088832
    · rw [if_pos c5] at H
      have c5b0 := eq_true c5
      have c5b1 : decide ((t104 : Int).toNat ≤ 35184372088832) = true := decide_eq_true c5
      clear c5
      obtain ⟨y105, hy105⟩ : ∃ y_ : List Int, y_ = (List.replicate (t104 : Int).toNat 0) := ⟨_, rfl⟩
      replace H : (vec_Fit.l0 k l0 a1 y105 (y105.length : Int) 0) = some r := by first | (rw [hy105]; with_reducible exact H) | (have H2_ := (Option.bind_some _ _).symm.trans H; rw [hy105]; with_reducible exact H2_) | (have H2_ := (Option.bind_some _ _).symm.trans H; with_reducible exact H2_) | with_reducible exact H | (rw [hy105]; exact H) | exact H
      have Ny105 := Aside0.mk hy105
      clear hy105
      have H' := Aside0.mk H
      clear H
      go_enter Try.func33, Try.ntmps33
      go_wp2_with (first | ((with_reducible refine gate_callee (f := 42) rfl ?_); refine goesL_ (some 8) rfl rfl Try.func42 (by kernel_rfl) rfl #[.int .i64 a1] rfl (by (try simp only [List.map_toArray, List.map_cons, List.map_nil]); first | done | rfl | (simp only [List.length_drop, List.length_take]; rfl)) ?_; (with_reducible refine (vec_Words.calls a1 t104 _ A3.out).mono ?_); rintro e w6 ⟨rfl, hb⟩; refine ⟨_, rfl, ?_⟩; have n0_ := Aside0.mk (below_step (by repeat (first | (with_reducible first | exact HB.out | apply below_alloc | apply pw_below_drewN | apply below_drew1) | exact HB.out)) hb); clear HB; have HB := n0_; clear n0_; (try clear hb); (try clear hb2); (try clear hk); (try clear hi)) | ((with_reducible refine gate_dst (N := 9) rfl ?_); refine Kd.R_make (Kd.int .u64) _ 36 rfl (N := 9) rfl 31 _ _ rfl t104 rfl rfl Try.underlying31 (.int .u64 0) 8 info36 rfl (by decide) (by omega) 0 (ok := fun _ => True) (okp := fun _ => True) rfl (fun _ hk => hk) trivial (of_decide_eq_true (by first | (with_reducible assumption) | assumption)) (Nat.le_trans (Nat.mul_le_mul_right _ (of_decide_eq_true (by first | (with_reducible assumption) | assumption) : t104.toNat ≤ 35184372088832)) (by omega)) (Below.refl _ _) (Nat.le_refl _) ?_; intro v106 w7 ho8 hb hg_ hnew_; clear hg_ hnew_; (first | rw [← Ny105.out] at ho8 | (simp only [Int.reduceToNat] at ho8; rw [← Ny105.out] at ho8)); have n0_ := Aside0.mk (Kd.R_lower ho8 (below_size (by repeat (first | (with_reducible first | exact HB.out | apply below_alloc | apply pw_below_drewN | apply below_drew1) | exact HB.out)))); have n1_ := Aside0.mk (below_step (by repeat (first | (with_reducible first | exact HB.out | apply below_alloc | apply pw_below_drewN | apply below_drew1) | exact HB.out)) hb); clear HB; have HO107 := n0_; have HB := n1_; clear n0_ n1_; clear hb ho8; obtain ⟨Ao9, co9, eo9⟩ := Kd.R_slice HO107.out; subst eo9))
      go_loopg [12] k (fun kq v12 w' => ∃ (x5_1 : List Int) (x12_1 : Int), v12 = .int .i64 x12_1 ∧ Aside0 (vec_Fit.l0 kq l0 a1 x5_1 (y105.length : Int) x12_1 = some r) ∧ Aside0 (kq ≤ k) ∧ Aside0 (Kd.R (Kd.int .u64) 36 w' w.heap.size (fun _ => True) (.slice Ao9 y105.length co9) x5_1) ∧ Aside0 (Below w.heap.size w w'))
      case atStart => exact ⟨(y105), (0), (by first | rfl | (simp; done) | (simp [*]; done)), H', ⟨Nat.le_refl _⟩, ⟨by (with_reducible repeat (first | apply Kd.R_alloc | apply Kd.R_drewN | apply Kd.R_drew)); exact HO107.out⟩, ⟨by repeat (first | (with_reducible first | exact HB.out | apply below_alloc | apply pw_below_drewN | apply below_drew1) | exact HB.out)⟩⟩
      case round =>
        clear H'
        try clear p2
        try clear c3
        try clear c4
        try clear c4b0
        try clear c4b1
        try clear c5
        try clear c5b0
        try clear c5b1
        obtain ⟨x5_1, x12_1, rfl, HA, HK1, HO_5, HB⟩ := hrel
        have hl5_1 := (Kd.R_reads' HO_5.out).1
        rw [hl5_1] at HO_5
        (try simp only [hl5_1])
        cases gk with
        | zero => exact absurd HA.out (by simp [vec_Fit.l0])
        | succ k1 =>
          have H := HA.out
          clear HA
          simp only [vec_Fit.l0] at H
          by_cases c10 : x12_1 < (y105.length : Int)
          · rw [if_pos c10] at H
            have c10b0 : decide (x12_1 < (y105.length : Int)) = true := decide_eq_true c10
            clear c10
            replace H := Option.bind_eq_some_iff.mp H
            obtain ⟨t108, A110, H⟩ := H
            replace H : ((vec_mask.f a1 x12_1).bind fun t109 => (if 0 ≤ x12_1 then (if x12_1 < (x5_1.length : Int) then (vec_Fit.l0 k1 l0 a1 (x5_1.set (x12_1 : Int).toNat (Go.bits .and .u64 t108 t109)) (y105.length : Int) (wrap64 (x12_1 + 1))) else (none)) else (none))) = some r := H
            have A11 := Aside0.mk A110
            clear A110
            replace H := Option.bind_eq_some_iff.mp H
            obtain ⟨t109, A120, H⟩ := H
            replace H : (if 0 ≤ x12_1 then (if x12_1 < (x5_1.length : Int) then (vec_Fit.l0 k1 l0 a1 (x5_1.set (x12_1 : Int).toNat (Go.bits .and .u64 t108 t109)) (y105.length : Int) (wrap64 (x12_1 + 1))) else (none)) else (none)) = some r := H
            have A12 := Aside0.mk A120
            clear A120
            by_cases c13 : 0 ≤ x12_1
            · rw [if_pos c13] at H
              have c13b0 : decide (0 ≤ x12_1) = true := decide_eq_true c13
              clear c13
              by_cases c14 : x12_1 < (x5_1.length : Int)
              · rw [if_pos c14] at H
                have c14b0 : decide (x12_1 < (x5_1.length : Int)) = true := decide_eq_true c14
                clear c14
                obtain ⟨y110, hy110⟩ : ∃ y_ : List Int, y_ = (x5_1.set (x12_1 : Int).toNat (Go.bits .and .u64 t108 t109)) := ⟨_, rfl⟩
                replace H : (vec_Fit.l0 k1 l0 a1 y110 (y105.length : Int) (wrap64 (x12_1 + 1))) = some r := by first | (rw [hy110]; with_reducible exact H) | (have H2_ := (Option.bind_some _ _).symm.trans H; rw [hy110]; with_reducible exact H2_) | (have H2_ := (Option.bind_some _ _).symm.trans H; with_reducible exact H2_) | with_reducible exact H | (rw [hy110]; exact H) | exact H
                have Ny110 := Aside0.mk hy110
                clear hy110
                have H' := Aside0.mk H
                clear H
                go_wp2_with (first | ((with_reducible refine gate_callee (f := 49) rfl ?_); refine goesL_ (some 19) rfl rfl Try.func49 (by kernel_rfl) rfl #[.slice A0 l0.length c0, .int .i64 x12_1] rfl (by (try simp only [List.map_toArray, List.map_cons, List.map_nil]); first | done | rfl | (simp only [List.length_drop, List.length_take]; rfl)) ?_; (with_reducible refine (vec_at.calls _ _ l0 x12_1 t108 _ ?side1 ?side2 A11.out).mono ?_); (case side1 => repeat (first | exact (Kd.C_below HR0.out HB.out) | (with_reducible refine Kd.C_alloc ?_ _) | (with_reducible refine Kd.C_drewN ?_ _) | (with_reducible refine Kd.C_drew ?_))); (case side2 => exact HC0.out); rintro e w' ⟨rfl, ⟨nd, rfl⟩⟩; refine ⟨_, rfl, ?_⟩; (try (rw [drewN_self wr]; generalize hq_ : World.drewN wr _ = wr; have n0_ : Aside0 (Kd.R (Kd.int .u64) 36 wr w.heap.size (fun _ => True) (.slice Ao9 x5_1.length co9) x5_1) := ⟨by rw [← hq_]; exact (by (with_reducible repeat (first | apply Kd.R_alloc | apply Kd.R_drewN | apply Kd.R_drew)); exact HO_5.out)⟩; have n1_ : Aside0 (Below w.heap.size w wr) := ⟨by rw [← hq_]; exact (by repeat (first | (with_reducible first | exact HB.out | apply below_alloc | apply pw_below_drewN | apply below_drew1) | exact HB.out))⟩; clear HO_5 HB hq_; have HO_5 := n0_; have HB := n1_; clear n0_ n1_))) | ((with_reducible refine gate_callee (f := 50) rfl ?_); refine goesL_ (some 22) rfl rfl Try.func50 (by kernel_rfl) rfl #[.int .i64 a1, .int .i64 x12_1] rfl (by (try simp only [List.map_toArray, List.map_cons, List.map_nil]); first | done | rfl | (simp only [List.length_drop, List.length_take]; rfl)) ?_; (with_reducible refine (vec_mask.calls a1 x12_1 t109 _ A12.out).mono ?_); rintro e w16 ⟨rfl, hb⟩; refine ⟨_, rfl, ?_⟩; have n0_ := Aside0.mk (Kd.R_below (by (with_reducible repeat (first | apply Kd.R_alloc | apply Kd.R_drewN | apply Kd.R_drew)); exact HO_5.out) hb); have n1_ := Aside0.mk (below_step (by repeat (first | (with_reducible first | exact HB.out | apply below_alloc | apply pw_below_drewN | apply below_drew1) | exact HB.out)) hb); clear HO_5; clear HB; have HO_5 := n0_; have HB := n1_; clear n0_ n1_; (try clear hb); (try clear hb2); (try clear hk); (try clear hi); have p15 : 0 ≤ (x12_1 : Int) := of_decide_eq_true (by first | (with_reducible assumption) | assumption); have q15 : (x12_1 : Int) < ((x5_1.length : Int) : Int) := of_decide_eq_true (by first | (with_reducible assumption) | assumption); obtain ⟨go15, co15, eo15, gb15, gl15, cl15, HG15⟩ := Kd.R_form HO_5.out (by omega); (first | cases eo15 | (injection eo15 with ea_ en_ ec_; (first | subst ea_ | (injection ea_ with ea_; subst ea_)); subst ec_; clear en_)); have GB15 := Aside0.mk gb15; have GG15 := Aside0.mk HG15; clear gb15 gl15 HG15; obtain ⟨hx15_0, hf15_0⟩ := Kd.R_celln 0 HO_5.out (x12_1 : Int) p15 q15; replace p15 := eq_true p15; replace q15 := eq_true q15; obtain ⟨hy17_, hz17_⟩ := Kd.R_celln 0 HO_5.out (x12_1 : Int) (of_decide_eq_true (by first | (with_reducible assumption) | assumption)) (of_decide_eq_true (by first | (with_reducible assumption) | assumption)); have HP17 := Kd.R_putg HO_5.out (x12_1 : Int) (Go.bits .and .u64 t108 t109)) | ((with_reducible refine gate_store (t := 36) (p := 24) rfl ?_); refine store_event (t := 36) (p := 24) (v := ?vo_w18) (w1 := (w16.setCell ⟨go15, (x12_1 : Int).toNat, none⟩ (.int .u64 (Go.bits .and .u64 t108 t109)))) ?hg ?ho ?hn ?hr ?_; (case ho => rfl); (case hg => rfl); (case hn => rfl); (case hr => first | (go_simp; done) | (go_simp; rfl)); intro w18 hw; have hg : w16.grownBy w18 (some go15) := (by rw [hw]; exact HP17.2); have hp_ : Kd.R (Kd.int .u64) 36 w18 w.heap.size (fun _ => True) (.slice (some ⟨go15, 0, none⟩) x5_1.length co9) y110 := (by rw [hw, Ny110.out]; exact HP17.1); clear HP17; have n0_ := Aside0.mk (hp_); have n1_ := Aside0.mk ((by rw [hw]; exact below_set (HB.out) GB15.out : Below w.heap.size w w18)); clear HO_5; clear HB; have HO_5 := n0_; have HB := n1_; clear n0_ n1_; clear hg hw hp_))
                (try simp only [← hl5_1])
                go_roundg k1
                case measure => have := HK1.out; omega
                case rel => exact ⟨(y110), (wrap64 (x12_1 + 1)), (by first | rfl | (simp; done) | (simp [*]; done)), H', ⟨by have := HK1.out; omega⟩, ⟨by (try simp only [hl5_1]); (with_reducible repeat (first | apply Kd.R_alloc | apply Kd.R_drewN | apply Kd.R_drew)); exact HO_5.out⟩, ⟨by repeat (first | (with_reducible first | exact HB.out | apply below_alloc | apply pw_below_drewN | apply below_drew1) | exact HB.out)⟩⟩
              · rw [if_neg c14] at H
                exact absurd H (by simp)
            · rw [if_neg c13] at H
              exact absurd H (by simp)
          · rw [if_neg c10] at H
            have c10b0 : decide (x12_1 < (y105.length : Int)) = false := decide_eq_false c10
            (try rw [hl5_1] at c10b0)
            clear c10
            obtain rfl := Option.some.inj H
            go_wp2
            go_ret
            exact ⟨_, by first | rfl | (simp [errW_none, errW_some] <;> rfl) | (simp [*, errW_none, errW_some] <;> rfl), by (with_reducible repeat (first | apply Kd.R_alloc | apply Kd.R_drewN | apply Kd.R_drew)); exact HO_5.out, by repeat (first | (with_reducible first | exact HB.out | apply below_alloc | apply pw_below_drewN | apply below_drew1) | exact HB.out)⟩
    · rw [if_neg c5] at H
      exact absurd H (by simp)
  · rw [if_neg c4] at H
    exact absurd H (by simp)

/-! ### vec_And: function 34 -/
def vec_And.l0 : Nat → List Int → List Int → List Int → Int → Int → Option (List Int)
  | 0, _, _, _, _, _ => none
  | k + 1, x0, x1, x5, x14, x15 => if x15 < x14 then ((vec_at.f x0 x15).bind fun t114 => ((vec_at.f x1 x15).bind fun t115 => (if 0 ≤ x15 then (if x15 < (x5.length : Int) then (vec_And.l0 k x0 x1 (x5.set (x15 : Int).toNat (Go.bits .and .u64 t114 t115)) x14 (wrap64 (x15 + 1))) else (none)) else (none)))) else (some x5)
def vec_And.f (k : Nat) (l0 : List Int) (l1 : List Int) : Option (List Int) := if 0 ≤ (mx (l0.length : Int) (l1.length : Int)) then (if (mx (l0.length : Int) (l1.length : Int) : Int).toNat ≤ 35184372088832 then ((some (List.replicate (mx (l0.length : Int) (l1.length : Int) : Int).toNat 0 : List Int)).bind fun y111 => (vec_And.l0 k l0 l1 y111 (y111.length : Int) 0)) else (none)) else (none)
theorem vec_And.mono_l : ∀ k, (∀ y0 y1 y2 y3 y4, LeO (vec_And.l0 k y0 y1 y2 y3 y4) (vec_And.l0 (k + 1) y0 y1 y2 y3 y4))
  | 0 => fun _ _ _ _ _ r h => by simp [vec_And.l0] at h
  | k + 1 => by
    have ih0 := vec_And.mono_l k
    · intro y0 y1 y2 y3 y4
      unfold vec_And.l0
      repeat' first
      | (with_reducible exact ih0 _ _ _ _ _)
      | (with_reducible exact LeO.refl _)
      | (with_reducible exact LeO.none _)
      | (with_reducible refine LeO.ite ?_ ?_)
      | (with_reducible refine LeO.bind ?_ (fun _ => ?_))
      | exact ih0 _ _ _ _ _
      | exact LeO.none _
      | refine LeO.ite ?_ ?_
      | refine LeO.bind ?_ (fun _ => ?_)
theorem vec_And.mono : ∀ a0 a1 k, LeO (vec_And.f k a0 a1) (vec_And.f (k + 1) a0 a1) := by
  intro a0 a1 k
  have ih0 := vec_And.mono_l k
  unfold vec_And.f
  repeat' first
      | (with_reducible exact ih0 _ _ _ _ _)
      | (with_reducible exact LeO.refl _)
      | (with_reducible exact LeO.none _)
      | (with_reducible refine LeO.ite ?_ ?_)
      | (with_reducible refine LeO.bind ?_ (fun _ => ?_))
      | exact ih0 _ _ _ _ _
      | exact LeO.none _
      | refine LeO.ite ?_ ?_
      | refine LeO.bind ?_ (fun _ => ?_)
set_option maxHeartbeats 8000000 in
set_option maxRecDepth 100000 in
theorem vec_And.calls (k : Nat) (A0 : Option Addr) (c0 : Nat) (l0 : List Int) (A1 : Option Addr) (c1 : Nat) (l1 : List Int) (r : List Int) (w : World) (hr0 : Kd.C (Kd.int .u64) w A0 l0.length l0) (hc0 : l0.length ≤ c0) (hr1 : Kd.C (Kd.int .u64) w A1 l1.length l1) (hc1 : l1.length ≤ c1) (h : vec_And.f k l0 l1 = some r) :
    Calls Try.prog 34 #[.slice A0 l0.length c0, .slice A1 l1.length c1] w fun e w' => ∃ v0_ : Value, e = .returned (v0_) ∧ Kd.R (Kd.int .u64) 36 w' w.heap.size (fun _ => True) v0_ r ∧ Below w.heap.size w w' := by
  have HR0 := Aside0.mk hr0
  have HC0 := Aside0.mk hc0
  clear hr0 hc0
  have HR1 := Aside0.mk hr1
  have HC1 := Aside0.mk hc1
  clear hr1 hc1
  have HB := Aside0.mk (Below.refl w.heap.size w)
  have H : (if 0 ≤ (mx (l0.length : Int) (l1.length : Int)) then (if (mx (l0.length : Int) (l1.length : Int) : Int).toNat ≤ 35184372088832 then ((some (List.replicate (mx (l0.length : Int) (l1.length : Int) : Int).toNat 0 : List Int)).bind fun y111 => (vec_And.l0 k l0 l1 y111 (y111.length : Int) 0)) else (none)) else (none)) = some r := h
  clear h
  obtain ⟨ji3, hji3⟩ : ∃ j_ : Int, (mx (l0.length : Int) (l1.length : Int)) = j_ := ⟨_, rfl⟩
  replace H : (if 0 ≤ (ji3) then (if (ji3 : Int).toNat ≤ 35184372088832 then ((some (List.replicate (ji3 : Int).toNat 0 : List Int)).bind fun y111 => (vec_And.l0 k l0 l1 y111 (y111.length : Int) 0)) else (none)) else (none)) = some r := by first | (rw [hji3] at H; exact H) | (simp only [hji3] at H ⊢; exact H)
  (try (have hji3l : 0 ≤ ji3 := by (rw [← hji3]; unfold mx; (repeat' split) <;> omega)))
  (try (have hji3m : 0 ≤ ji3 := by omega))
  have hji3_ : (if (l0.length : Int) < (l1.length : Int) then (l1.length : Int) else (l0.length : Int)) = ji3 := hji3
  have hji3_0 : (if l0.length < l1.length then (l1.length : Int) else (l0.length : Int)) = ji3 := by rw [← hji3_]; simp only [Int.ofNat_lt]
  by_cases c4 : 0 ≤ (ji3)
  · rw [if_pos c4] at H
    have c4b0 := eq_true c4
    have c4b1 : decide (0 ≤ (ji3)) = true := decide_eq_true c4
    clear c4
    by_cases c5 : (ji3 : Int).toNat ≤ 35184372088832
    · rw [if_pos c5] at H
      have c5b0 := eq_true c5
      have c5b1 : decide ((ji3 : Int).toNat ≤ 35184372088832) = true := decide_eq_true c5
      clear c5
      obtain ⟨y111, hy111⟩ : ∃ y_ : List Int, y_ = (List.replicate (ji3 : Int).toNat 0) := ⟨_, rfl⟩
      replace H : (vec_And.l0 k l0 l1 y111 (y111.length : Int) 0) = some r := by first | (rw [hy111]; with_reducible exact H) | (have H2_ := (Option.bind_some _ _).symm.trans H; rw [hy111]; with_reducible exact H2_) | (have H2_ := (Option.bind_some _ _).symm.trans H; with_reducible exact H2_) | with_reducible exact H | (rw [hy111]; exact H) | exact H
      have Ny111 := Aside0.mk hy111
      clear hy111
      have H' := Aside0.mk H
      clear H
      go_enter Try.func34, Try.ntmps34
      go_wp2_with (first | ((with_reducible refine gate_dst (N := 12) rfl ?_); refine Kd.R_make (Kd.int .u64) _ 36 rfl (N := 12) rfl 31 _ _ rfl ji3 rfl rfl Try.underlying31 (.int .u64 0) 8 info36 rfl (by decide) (by omega) 0 (ok := fun _ => True) (okp := fun _ => True) rfl (fun _ hk => hk) trivial (of_decide_eq_true (by first | (with_reducible assumption) | assumption)) (Nat.le_trans (Nat.mul_le_mul_right _ (of_decide_eq_true (by first | (with_reducible assumption) | assumption) : ji3.toNat ≤ 35184372088832)) (by omega)) (Below.refl _ _) (Nat.le_refl _) ?_; intro v112 w6 ho7 hb hg_ hnew_; clear hg_ hnew_; (first | rw [← Ny111.out] at ho7 | (simp only [Int.reduceToNat] at ho7; rw [← Ny111.out] at ho7)); have n0_ := Aside0.mk (Kd.R_lower ho7 (below_size (by repeat (first | (with_reducible first | exact HB.out | apply below_alloc | apply pw_below_drewN | apply below_drew1) | exact HB.out)))); have n1_ := Aside0.mk (below_step (by repeat (first | (with_reducible first | exact HB.out | apply below_alloc | apply pw_below_drewN | apply below_drew1) | exact HB.out)) hb); clear HB; have HO113 := n0_; have HB := n1_; clear n0_ n1_; clear hb ho7; obtain ⟨Ao8, co8, eo8⟩ := Kd.R_slice HO113.out; subst eo8))
      go_loopg [15] k (fun kq v15 w' => ∃ (x5_1 : List Int) (x15_1 : Int), v15 = .int .i64 x15_1 ∧ Aside0 (vec_And.l0 kq l0 l1 x5_1 (y111.length : Int) x15_1 = some r) ∧ Aside0 (kq ≤ k) ∧ Aside0 (Kd.R (Kd.int .u64) 36 w' w.heap.size (fun _ => True) (.slice Ao8 y111.length co8) x5_1) ∧ Aside0 (Below w.heap.size w w'))
      case atStart => exact ⟨(y111), (0), (by first | rfl | (simp; done) | (simp [*]; done)), H', ⟨Nat.le_refl _⟩, ⟨by (with_reducible repeat (first | apply Kd.R_alloc | apply Kd.R_drewN | apply Kd.R_drew)); exact HO113.out⟩, ⟨by repeat (first | (with_reducible first | exact HB.out | apply below_alloc | apply pw_below_drewN | apply below_drew1) | exact HB.out)⟩⟩
      case round =>
        clear H'
        try clear c1
        try clear p2
        try clear c3
        try clear c4
        try clear c4b0
        try clear c4b1
        try clear c5
        try clear c5b0
        try clear c5b1
        obtain ⟨x5_1, x15_1, rfl, HA, HK1, HO_5, HB⟩ := hrel
        have hl5_1 := (Kd.R_reads' HO_5.out).1
        rw [hl5_1] at HO_5
        (try simp only [hl5_1])
        cases gk with
        | zero => exact absurd HA.out (by simp [vec_And.l0])
        | succ k1 =>
          have H := HA.out
          clear HA
          simp only [vec_And.l0] at H
          by_cases c9 : x15_1 < (y111.length : Int)
          · rw [if_pos c9] at H
            have c9b0 : decide (x15_1 < (y111.length : Int)) = true := decide_eq_true c9
            clear c9
            replace H := Option.bind_eq_some_iff.mp H
            obtain ⟨t114, A100, H⟩ := H
            replace H : ((vec_at.f l1 x15_1).bind fun t115 => (if 0 ≤ x15_1 then (if x15_1 < (x5_1.length : Int) then (vec_And.l0 k1 l0 l1 (x5_1.set (x15_1 : Int).toNat (Go.bits .and .u64 t114 t115)) (y111.length : Int) (wrap64 (x15_1 + 1))) else (none)) else (none))) = some r := H
            have A10 := Aside0.mk A100
            clear A100
            replace H := Option.bind_eq_some_iff.mp H
            obtain ⟨t115, A110, H⟩ := H
            replace H : (if 0 ≤ x15_1 then (if x15_1 < (x5_1.length : Int) then (vec_And.l0 k1 l0 l1 (x5_1.set (x15_1 : Int).toNat (Go.bits .and .u64 t114 t115)) (y111.length : Int) (wrap64 (x15_1 + 1))) else (none)) else (none)) = some r := H
            have A11 := Aside0.mk A110
            clear A110
            by_cases c12 : 0 ≤ x15_1
            · rw [if_pos c12] at H
              have c12b0 : decide (0 ≤ x15_1) = true := decide_eq_true c12
              clear c12
              by_cases c13 : x15_1 < (x5_1.length : Int)
              · rw [if_pos c13] at H
                have c13b0 : decide (x15_1 < (x5_1.length : Int)) = true := decide_eq_true c13
                clear c13
                obtain ⟨y116, hy116⟩ : ∃ y_ : List Int, y_ = (x5_1.set (x15_1 : Int).toNat (Go.bits .and .u64 t114 t115)) := ⟨_, rfl⟩
                replace H : (vec_And.l0 k1 l0 l1 y116 (y111.length : Int) (wrap64 (x15_1 + 1))) = some r := by first | (rw [hy116]; with_reducible exact H) | (have H2_ := (Option.bind_some _ _).symm.trans H; rw [hy116]; with_reducible exact H2_) | (have H2_ := (Option.bind_some _ _).symm.trans H; with_reducible exact H2_) | with_reducible exact H | (rw [hy116]; exact H) | exact H
                have Ny116 := Aside0.mk hy116
                clear hy116
                have H' := Aside0.mk H
                clear H
                go_wp2_with (first | ((with_reducible refine gate_callee (f := 49) rfl ?_); refine goesL_ (some 22) rfl rfl Try.func49 (by kernel_rfl) rfl #[.slice A0 l0.length c0, .int .i64 x15_1] rfl (by (try simp only [List.map_toArray, List.map_cons, List.map_nil]); first | done | rfl | (simp only [List.length_drop, List.length_take]; rfl)) ?_; (with_reducible refine (vec_at.calls _ _ l0 x15_1 t114 _ ?side1 ?side2 A10.out).mono ?_); (case side1 => repeat (first | exact (Kd.C_below HR0.out HB.out) | (with_reducible refine Kd.C_alloc ?_ _) | (with_reducible refine Kd.C_drewN ?_ _) | (with_reducible refine Kd.C_drew ?_))); (case side2 => exact HC0.out); rintro e w' ⟨rfl, ⟨nd, rfl⟩⟩; refine ⟨_, rfl, ?_⟩; (try (rw [drewN_self wr]; generalize hq_ : World.drewN wr _ = wr; have n0_ : Aside0 (Kd.R (Kd.int .u64) 36 wr w.heap.size (fun _ => True) (.slice Ao8 x5_1.length co8) x5_1) := ⟨by rw [← hq_]; exact (by (with_reducible repeat (first | apply Kd.R_alloc | apply Kd.R_drewN | apply Kd.R_drew)); exact HO_5.out)⟩; have n1_ : Aside0 (Below w.heap.size w wr) := ⟨by rw [← hq_]; exact (by repeat (first | (with_reducible first | exact HB.out | apply below_alloc | apply pw_below_drewN | apply below_drew1) | exact HB.out))⟩; clear HO_5 HB hq_; have HO_5 := n0_; have HB := n1_; clear n0_ n1_))) | ((with_reducible refine gate_callee (f := 49) rfl ?_); refine goesL_ (some 25) rfl rfl Try.func49 (by kernel_rfl) rfl #[.slice A1 l1.length c1, .int .i64 x15_1] rfl (by (try simp only [List.map_toArray, List.map_cons, List.map_nil]); first | done | rfl | (simp only [List.length_drop, List.length_take]; rfl)) ?_; (with_reducible refine (vec_at.calls _ _ l1 x15_1 t115 _ ?side1 ?side2 A11.out).mono ?_); (case side1 => repeat (first | exact (Kd.C_below HR1.out HB.out) | (with_reducible refine Kd.C_alloc ?_ _) | (with_reducible refine Kd.C_drewN ?_ _) | (with_reducible refine Kd.C_drew ?_))); (case side2 => exact HC1.out); rintro e w' ⟨rfl, ⟨nd, rfl⟩⟩; refine ⟨_, rfl, ?_⟩; (try (rw [drewN_self wr]; generalize hq_ : World.drewN wr _ = wr; have n0_ : Aside0 (Kd.R (Kd.int .u64) 36 wr w.heap.size (fun _ => True) (.slice Ao8 x5_1.length co8) x5_1) := ⟨by rw [← hq_]; exact (by (with_reducible repeat (first | apply Kd.R_alloc | apply Kd.R_drewN | apply Kd.R_drew)); exact HO_5.out)⟩; have n1_ : Aside0 (Below w.heap.size w wr) := ⟨by rw [← hq_]; exact (by repeat (first | (with_reducible first | exact HB.out | apply below_alloc | apply pw_below_drewN | apply below_drew1) | exact HB.out))⟩; clear HO_5 HB hq_; have HO_5 := n0_; have HB := n1_; clear n0_ n1_)); have p14 : 0 ≤ (x15_1 : Int) := of_decide_eq_true (by first | (with_reducible assumption) | assumption); have q14 : (x15_1 : Int) < ((x5_1.length : Int) : Int) := of_decide_eq_true (by first | (with_reducible assumption) | assumption); obtain ⟨go14, co14, eo14, gb14, gl14, cl14, HG14⟩ := Kd.R_form HO_5.out (by omega); (first | cases eo14 | (injection eo14 with ea_ en_ ec_; (first | subst ea_ | (injection ea_ with ea_; subst ea_)); subst ec_; clear en_)); have GB14 := Aside0.mk gb14; have GG14 := Aside0.mk HG14; clear gb14 gl14 HG14; obtain ⟨hx14_0, hf14_0⟩ := Kd.R_celln 0 HO_5.out (x15_1 : Int) p14 q14; replace p14 := eq_true p14; replace q14 := eq_true q14; obtain ⟨hy15_, hz15_⟩ := Kd.R_celln 0 HO_5.out (x15_1 : Int) (of_decide_eq_true (by first | (with_reducible assumption) | assumption)) (of_decide_eq_true (by first | (with_reducible assumption) | assumption)); have HP15 := Kd.R_putg HO_5.out (x15_1 : Int) (Go.bits .and .u64 t114 t115)) | ((with_reducible refine gate_store (t := 36) (p := 27) rfl ?_); refine store_event (t := 36) (p := 27) (v := ?vo_w16) (w1 := (wr.setCell ⟨go14, (x15_1 : Int).toNat, none⟩ (.int .u64 (Go.bits .and .u64 t114 t115)))) ?hg ?ho ?hn ?hr ?_; (case ho => rfl); (case hg => rfl); (case hn => rfl); (case hr => first | (go_simp; done) | (go_simp; rfl)); intro w16 hw; have hg : wr.grownBy w16 (some go14) := (by rw [hw]; exact HP15.2); have hp_ : Kd.R (Kd.int .u64) 36 w16 w.heap.size (fun _ => True) (.slice (some ⟨go14, 0, none⟩) x5_1.length co8) y116 := (by rw [hw, Ny116.out]; exact HP15.1); clear HP15; have n0_ := Aside0.mk (hp_); have n1_ := Aside0.mk ((by rw [hw]; exact below_set (HB.out) GB14.out : Below w.heap.size w w16)); clear HO_5; clear HB; have HO_5 := n0_; have HB := n1_; clear n0_ n1_; clear hg hw hp_))
                (try simp only [← hl5_1])
                go_roundg k1
                case measure => have := HK1.out; omega
                case rel => exact ⟨(y116), (wrap64 (x15_1 + 1)), (by first | rfl | (simp; done) | (simp [*]; done)), H', ⟨by have := HK1.out; omega⟩, ⟨by (try simp only [hl5_1]); (with_reducible repeat (first | apply Kd.R_alloc | apply Kd.R_drewN | apply Kd.R_drew)); exact HO_5.out⟩, ⟨by repeat (first | (with_reducible first | exact HB.out | apply below_alloc | apply pw_below_drewN | apply below_drew1) | exact HB.out)⟩⟩
              · rw [if_neg c13] at H
                exact absurd H (by simp)
            · rw [if_neg c12] at H
              exact absurd H (by simp)
          · rw [if_neg c9] at H
            have c9b0 : decide (x15_1 < (y111.length : Int)) = false := decide_eq_false c9
            (try rw [hl5_1] at c9b0)
            clear c9
            obtain rfl := Option.some.inj H
            go_wp2
            go_ret
            exact ⟨_, by first | rfl | (simp [errW_none, errW_some] <;> rfl) | (simp only [← hji3]; first | rfl | (simp [errW_none, errW_some] <;> rfl)) | (simp [*, errW_none, errW_some] <;> rfl), by (with_reducible repeat (first | apply Kd.R_alloc | apply Kd.R_drewN | apply Kd.R_drew)); exact HO_5.out, by repeat (first | (with_reducible first | exact HB.out | apply below_alloc | apply pw_below_drewN | apply below_drew1) | exact HB.out)⟩
    · rw [if_neg c5] at H
      exact absurd H (by simp)
  · rw [if_neg c4] at H
    exact absurd H (by simp)

/-! ### vec_Or: function 35 -/
def vec_Or.l0 : Nat → List Int → List Int → List Int → Int → Int → Option (List Int)
  | 0, _, _, _, _, _ => none
  | k + 1, x0, x1, x5, x14, x15 => if x15 < x14 then ((vec_at.f x0 x15).bind fun t120 => ((vec_at.f x1 x15).bind fun t121 => (if 0 ≤ x15 then (if x15 < (x5.length : Int) then (vec_Or.l0 k x0 x1 (x5.set (x15 : Int).toNat (Go.bits .or .u64 t120 t121)) x14 (wrap64 (x15 + 1))) else (none)) else (none)))) else (some x5)
def vec_Or.f (k : Nat) (l0 : List Int) (l1 : List Int) : Option (List Int) := if 0 ≤ (mx (l0.length : Int) (l1.length : Int)) then (if (mx (l0.length : Int) (l1.length : Int) : Int).toNat ≤ 35184372088832 then ((some (List.replicate (mx (l0.length : Int) (l1.length : Int) : Int).toNat 0 : List Int)).bind fun y117 => (vec_Or.l0 k l0 l1 y117 (y117.length : Int) 0)) else (none)) else (none)
theorem vec_Or.mono_l : ∀ k, (∀ y0 y1 y2 y3 y4, LeO (vec_Or.l0 k y0 y1 y2 y3 y4) (vec_Or.l0 (k + 1) y0 y1 y2 y3 y4))
  | 0 => fun _ _ _ _ _ r h => by simp [vec_Or.l0] at h
  | k + 1 => by
    have ih0 := vec_Or.mono_l k
    · intro y0 y1 y2 y3 y4
      unfold vec_Or.l0
      repeat' first
      | (with_reducible exact ih0 _ _ _ _ _)
      | (with_reducible exact LeO.refl _)
      | (with_reducible exact LeO.none _)
      | (with_reducible refine LeO.ite ?_ ?_)
      | (with_reducible refine LeO.bind ?_ (fun _ => ?_))
      | exact ih0 _ _ _ _ _
      | exact LeO.none _
      | refine LeO.ite ?_ ?_
      | refine LeO.bind ?_ (fun _ => ?_)
theorem vec_Or.mono : ∀ a0 a1 k, LeO (vec_Or.f k a0 a1) (vec_Or.f (k + 1) a0 a1) := by
  intro a0 a1 k
  have ih0 := vec_Or.mono_l k
  unfold vec_Or.f
  repeat' first
      | (with_reducible exact ih0 _ _ _ _ _)
      | (with_reducible exact LeO.refl _)
      | (with_reducible exact LeO.none _)
      | (with_reducible refine LeO.ite ?_ ?_)
      | (with_reducible refine LeO.bind ?_ (fun _ => ?_))
      | exact ih0 _ _ _ _ _
      | exact LeO.none _
      | refine LeO.ite ?_ ?_
      | refine LeO.bind ?_ (fun _ => ?_)
set_option maxHeartbeats 8000000 in
set_option maxRecDepth 100000 in
theorem vec_Or.calls (k : Nat) (A0 : Option Addr) (c0 : Nat) (l0 : List Int) (A1 : Option Addr) (c1 : Nat) (l1 : List Int) (r : List Int) (w : World) (hr0 : Kd.C (Kd.int .u64) w A0 l0.length l0) (hc0 : l0.length ≤ c0) (hr1 : Kd.C (Kd.int .u64) w A1 l1.length l1) (hc1 : l1.length ≤ c1) (h : vec_Or.f k l0 l1 = some r) :
    Calls Try.prog 35 #[.slice A0 l0.length c0, .slice A1 l1.length c1] w fun e w' => ∃ v0_ : Value, e = .returned (v0_) ∧ Kd.R (Kd.int .u64) 36 w' w.heap.size (fun _ => True) v0_ r ∧ Below w.heap.size w w' := by
  have HR0 := Aside0.mk hr0
  have HC0 := Aside0.mk hc0
  clear hr0 hc0
  have HR1 := Aside0.mk hr1
  have HC1 := Aside0.mk hc1
  clear hr1 hc1
  have HB := Aside0.mk (Below.refl w.heap.size w)
  have H : (if 0 ≤ (mx (l0.length : Int) (l1.length : Int)) then (if (mx (l0.length : Int) (l1.length : Int) : Int).toNat ≤ 35184372088832 then ((some (List.replicate (mx (l0.length : Int) (l1.length : Int) : Int).toNat 0 : List Int)).bind fun y117 => (vec_Or.l0 k l0 l1 y117 (y117.length : Int) 0)) else (none)) else (none)) = some r := h
  clear h
  obtain ⟨ji3, hji3⟩ : ∃ j_ : Int, (mx (l0.length : Int) (l1.length : Int)) = j_ := ⟨_, rfl⟩
  replace H : (if 0 ≤ (ji3) then (if (ji3 : Int).toNat ≤ 35184372088832 then ((some (List.replicate (ji3 : Int).toNat 0 : List Int)).bind fun y117 => (vec_Or.l0 k l0 l1 y117 (y117.length : Int) 0)) else (none)) else (none)) = some r := by first | (rw [hji3] at H; exact H) | (simp only [hji3] at H ⊢; exact H)
  (try (have hji3l : 0 ≤ ji3 := by (rw [← hji3]; unfold mx; (repeat' split) <;> omega)))
  (try (have hji3m : 0 ≤ ji3 := by omega))
  have hji3_ : (if (l0.length : Int) < (l1.length : Int) then (l1.length : Int) else (l0.length : Int)) = ji3 := hji3
  have hji3_0 : (if l0.length < l1.length then (l1.length : Int) else (l0.length : Int)) = ji3 := by rw [← hji3_]; simp only [Int.ofNat_lt]
  by_cases c4 : 0 ≤ (ji3)
  · rw [if_pos c4] at H
    have c4b0 := eq_true c4
    have c4b1 : decide (0 ≤ (ji3)) = true := decide_eq_true c4
    clear c4
    by_cases c5 : (ji3 : Int).toNat ≤ 35184372088832
    · rw [if_pos c5] at H
      have c5b0 := eq_true c5
      have c5b1 : decide ((ji3 : Int).toNat ≤ 35184372088832) = true := decide_eq_true c5
      clear c5
      obtain ⟨y117, hy117⟩ : ∃ y_ : List Int, y_ = (List.replicate (ji3 : Int).toNat 0) := ⟨_, rfl⟩
      replace H : (vec_Or.l0 k l0 l1 y117 (y117.length : Int) 0) = some r := by first | (rw [hy117]; with_reducible exact H) | (have H2_ := (Option.bind_some _ _).symm.trans H; rw [hy117]; with_reducible exact H2_) | (have H2_ := (Option.bind_some _ _).symm.trans H; with_reducible exact H2_) | with_reducible exact H | (rw [hy117]; exact H) | exact H
      have Ny117 := Aside0.mk hy117
      clear hy117
      have H' := Aside0.mk H
      clear H
      go_enter Try.func35, Try.ntmps35
      go_wp2_with (first | ((with_reducible refine gate_dst (N := 12) rfl ?_); refine Kd.R_make (Kd.int .u64) _ 36 rfl (N := 12) rfl 31 _ _ rfl ji3 rfl rfl Try.underlying31 (.int .u64 0) 8 info36 rfl (by decide) (by omega) 0 (ok := fun _ => True) (okp := fun _ => True) rfl (fun _ hk => hk) trivial (of_decide_eq_true (by first | (with_reducible assumption) | assumption)) (Nat.le_trans (Nat.mul_le_mul_right _ (of_decide_eq_true (by first | (with_reducible assumption) | assumption) : ji3.toNat ≤ 35184372088832)) (by omega)) (Below.refl _ _) (Nat.le_refl _) ?_; intro v118 w6 ho7 hb hg_ hnew_; clear hg_ hnew_; (first | rw [← Ny117.out] at ho7 | (simp only [Int.reduceToNat] at ho7; rw [← Ny117.out] at ho7)); have n0_ := Aside0.mk (Kd.R_lower ho7 (below_size (by repeat (first | (with_reducible first | exact HB.out | apply below_alloc | apply pw_below_drewN | apply below_drew1) | exact HB.out)))); have n1_ := Aside0.mk (below_step (by repeat (first | (with_reducible first | exact HB.out | apply below_alloc | apply pw_below_drewN | apply below_drew1) | exact HB.out)) hb); clear HB; have HO119 := n0_; have HB := n1_; clear n0_ n1_; clear hb ho7; obtain ⟨Ao8, co8, eo8⟩ := Kd.R_slice HO119.out; subst eo8))
      go_loopg [15] k (fun kq v15 w' => ∃ (x5_1 : List Int) (x15_1 : Int), v15 = .int .i64 x15_1 ∧ Aside0 (vec_Or.l0 kq l0 l1 x5_1 (y117.length : Int) x15_1 = some r) ∧ Aside0 (kq ≤ k) ∧ Aside0 (Kd.R (Kd.int .u64) 36 w' w.heap.size (fun _ => True) (.slice Ao8 y117.length co8) x5_1) ∧ Aside0 (Below w.heap.size w w'))
      case atStart => exact ⟨(y117), (0), (by first | rfl | (simp; done) | (simp [*]; done)), H', ⟨Nat.le_refl _⟩, ⟨by (with_reducible repeat (first | apply Kd.R_alloc | apply Kd.R_drewN | apply Kd.R_drew)); exact HO119.out⟩, ⟨by repeat (first | (with_reducible first | exact HB.out | apply below_alloc | apply pw_below_drewN | apply below_drew1) | exact HB.out)⟩⟩
      case round =>
        clear H'
        try clear c1
        try clear p2
        try clear c3
        try clear c4
        try clear c4b0
        try clear c4b1
        try clear c5
        try clear c5b0
        try clear c5b1
        obtain ⟨x5_1, x15_1, rfl, HA, HK1, HO_5, HB⟩ := hrel
        have hl5_1 := (Kd.R_reads' HO_5.out).1
        rw [hl5_1] at HO_5
        (try simp only [hl5_1])
        cases gk with
        | zero => exact absurd HA.out (by simp [vec_Or.l0])
        | succ k1 =>
          have H := HA.out
          clear HA
          simp only [vec_Or.l0] at H
          by_cases c9 : x15_1 < (y117.length : Int)
          · rw [if_pos c9] at H
            have c9b0 : decide (x15_1 < (y117.length : Int)) = true := decide_eq_true c9
            clear c9
            replace H := Option.bind_eq_some_iff.mp H
            obtain ⟨t120, A100, H⟩ := H
            replace H : ((vec_at.f l1 x15_1).bind fun t121 => (if 0 ≤ x15_1 then (if x15_1 < (x5_1.length : Int) then (vec_Or.l0 k1 l0 l1 (x5_1.set (x15_1 : Int).toNat (Go.bits .or .u64 t120 t121)) (y117.length : Int) (wrap64 (x15_1 + 1))) else (none)) else (none))) = some r := H
            have A10 := Aside0.mk A100
            clear A100
            replace H := Option.bind_eq_some_iff.mp H
            obtain ⟨t121, A110, H⟩ := H
            replace H : (if 0 ≤ x15_1 then (if x15_1 < (x5_1.length : Int) then (vec_Or.l0 k1 l0 l1 (x5_1.set (x15_1 : Int).toNat (Go.bits .or .u64 t120 t121)) (y117.length : Int) (wrap64 (x15_1 + 1))) else (none)) else (none)) = some r := H
            have A11 := Aside0.mk A110
            clear A110
            by_cases c12 : 0 ≤ x15_1
            · rw [if_pos c12] at H
              have c12b0 : decide (0 ≤ x15_1) = true := decide_eq_true c12
              clear c12
              by_cases c13 : x15_1 < (x5_1.length : Int)
              · rw [if_pos c13] at H
                have c13b0 : decide (x15_1 < (x5_1.length : Int)) = true := decide_eq_true c13
                clear c13
                obtain ⟨y122, hy122⟩ : ∃ y_ : List Int, y_ = (x5_1.set (x15_1 : Int).toNat (Go.bits .or .u64 t120 t121)) := ⟨_, rfl⟩
                replace H : (vec_Or.l0 k1 l0 l1 y122 (y117.length : Int) (wrap64 (x15_1 + 1))) = some r := by first | (rw [hy122]; with_reducible exact H) | (have H2_ := (Option.bind_some _ _).symm.trans H; rw [hy122]; with_reducible exact H2_) | (have H2_ := (Option.bind_some _ _).symm.trans H; with_reducible exact H2_) | with_reducible exact H | (rw [hy122]; exact H) | exact H
                have Ny122 := Aside0.mk hy122
                clear hy122
                have H' := Aside0.mk H
                clear H
                go_wp2_with (first | ((with_reducible refine gate_callee (f := 49) rfl ?_); refine goesL_ (some 22) rfl rfl Try.func49 (by kernel_rfl) rfl #[.slice A0 l0.length c0, .int .i64 x15_1] rfl (by (try simp only [List.map_toArray, List.map_cons, List.map_nil]); first | done | rfl | (simp only [List.length_drop, List.length_take]; rfl)) ?_; (with_reducible refine (vec_at.calls _ _ l0 x15_1 t120 _ ?side1 ?side2 A10.out).mono ?_); (case side1 => repeat (first | exact (Kd.C_below HR0.out HB.out) | (with_reducible refine Kd.C_alloc ?_ _) | (with_reducible refine Kd.C_drewN ?_ _) | (with_reducible refine Kd.C_drew ?_))); (case side2 => exact HC0.out); rintro e w' ⟨rfl, ⟨nd, rfl⟩⟩; refine ⟨_, rfl, ?_⟩; (try (rw [drewN_self wr]; generalize hq_ : World.drewN wr _ = wr; have n0_ : Aside0 (Kd.R (Kd.int .u64) 36 wr w.heap.size (fun _ => True) (.slice Ao8 x5_1.length co8) x5_1) := ⟨by rw [← hq_]; exact (by (with_reducible repeat (first | apply Kd.R_alloc | apply Kd.R_drewN | apply Kd.R_drew)); exact HO_5.out)⟩; have n1_ : Aside0 (Below w.heap.size w wr) := ⟨by rw [← hq_]; exact (by repeat (first | (with_reducible first | exact HB.out | apply below_alloc | apply pw_below_drewN | apply below_drew1) | exact HB.out))⟩; clear HO_5 HB hq_; have HO_5 := n0_; have HB := n1_; clear n0_ n1_))) | ((with_reducible refine gate_callee (f := 49) rfl ?_); refine goesL_ (some 25) rfl rfl Try.func49 (by kernel_rfl) rfl #[.slice A1 l1.length c1, .int .i64 x15_1] rfl (by (try simp only [List.map_toArray, List.map_cons, List.map_nil]); first | done | rfl | (simp only [List.length_drop, List.length_take]; rfl)) ?_; (with_reducible refine (vec_at.calls _ _ l1 x15_1 t121 _ ?side1 ?side2 A11.out).mono ?_); (case side1 => repeat (first | exact (Kd.C_below HR1.out HB.out) | (with_reducible refine Kd.C_alloc ?_ _) | (with_reducible refine Kd.C_drewN ?_ _) | (with_reducible refine Kd.C_drew ?_))); (case side2 => exact HC1.out); rintro e w' ⟨rfl, ⟨nd, rfl⟩⟩; refine ⟨_, rfl, ?_⟩; (try (rw [drewN_self wr]; generalize hq_ : World.drewN wr _ = wr; have n0_ : Aside0 (Kd.R (Kd.int .u64) 36 wr w.heap.size (fun _ => True) (.slice Ao8 x5_1.length co8) x5_1) := ⟨by rw [← hq_]; exact (by (with_reducible repeat (first | apply Kd.R_alloc | apply Kd.R_drewN | apply Kd.R_drew)); exact HO_5.out)⟩; have n1_ : Aside0 (Below w.heap.size w wr) := ⟨by rw [← hq_]; exact (by repeat (first | (with_reducible first | exact HB.out | apply below_alloc | apply pw_below_drewN | apply below_drew1) | exact HB.out))⟩; clear HO_5 HB hq_; have HO_5 := n0_; have HB := n1_; clear n0_ n1_)); have p14 : 0 ≤ (x15_1 : Int) := of_decide_eq_true (by first | (with_reducible assumption) | assumption); have q14 : (x15_1 : Int) < ((x5_1.length : Int) : Int) := of_decide_eq_true (by first | (with_reducible assumption) | assumption); obtain ⟨go14, co14, eo14, gb14, gl14, cl14, HG14⟩ := Kd.R_form HO_5.out (by omega); (first | cases eo14 | (injection eo14 with ea_ en_ ec_; (first | subst ea_ | (injection ea_ with ea_; subst ea_)); subst ec_; clear en_)); have GB14 := Aside0.mk gb14; have GG14 := Aside0.mk HG14; clear gb14 gl14 HG14; obtain ⟨hx14_0, hf14_0⟩ := Kd.R_celln 0 HO_5.out (x15_1 : Int) p14 q14; replace p14 := eq_true p14; replace q14 := eq_true q14; obtain ⟨hy15_, hz15_⟩ := Kd.R_celln 0 HO_5.out (x15_1 : Int) (of_decide_eq_true (by first | (with_reducible assumption) | assumption)) (of_decide_eq_true (by first | (with_reducible assumption) | assumption)); have HP15 := Kd.R_putg HO_5.out (x15_1 : Int) (Go.bits .or .u64 t120 t121)) | ((with_reducible refine gate_store (t := 36) (p := 27) rfl ?_); refine store_event (t := 36) (p := 27) (v := ?vo_w16) (w1 := (wr.setCell ⟨go14, (x15_1 : Int).toNat, none⟩ (.int .u64 (Go.bits .or .u64 t120 t121)))) ?hg ?ho ?hn ?hr ?_; (case ho => rfl); (case hg => rfl); (case hn => rfl); (case hr => first | (go_simp; done) | (go_simp; rfl)); intro w16 hw; have hg : wr.grownBy w16 (some go14) := (by rw [hw]; exact HP15.2); have hp_ : Kd.R (Kd.int .u64) 36 w16 w.heap.size (fun _ => True) (.slice (some ⟨go14, 0, none⟩) x5_1.length co8) y122 := (by rw [hw, Ny122.out]; exact HP15.1); clear HP15; have n0_ := Aside0.mk (hp_); have n1_ := Aside0.mk ((by rw [hw]; exact below_set (HB.out) GB14.out : Below w.heap.size w w16)); clear HO_5; clear HB; have HO_5 := n0_; have HB := n1_; clear n0_ n1_; clear hg hw hp_))
                (try simp only [← hl5_1])
                go_roundg k1
                case measure => have := HK1.out; omega
                case rel => exact ⟨(y122), (wrap64 (x15_1 + 1)), (by first | rfl | (simp; done) | (simp [*]; done)), H', ⟨by have := HK1.out; omega⟩, ⟨by (try simp only [hl5_1]); (with_reducible repeat (first | apply Kd.R_alloc | apply Kd.R_drewN | apply Kd.R_drew)); exact HO_5.out⟩, ⟨by repeat (first | (with_reducible first | exact HB.out | apply below_alloc | apply pw_below_drewN | apply below_drew1) | exact HB.out)⟩⟩
              · rw [if_neg c13] at H
                exact absurd H (by simp)
            · rw [if_neg c12] at H
              exact absurd H (by simp)
          · rw [if_neg c9] at H
            have c9b0 : decide (x15_1 < (y117.length : Int)) = false := decide_eq_false c9
            (try rw [hl5_1] at c9b0)
            clear c9
            obtain rfl := Option.some.inj H
            go_wp2
            go_ret
            exact ⟨_, by first | rfl | (simp [errW_none, errW_some] <;> rfl) | (simp only [← hji3]; first | rfl | (simp [errW_none, errW_some] <;> rfl)) | (simp [*, errW_none, errW_some] <;> rfl), by (with_reducible repeat (first | apply Kd.R_alloc | apply Kd.R_drewN | apply Kd.R_drew)); exact HO_5.out, by repeat (first | (with_reducible first | exact HB.out | apply below_alloc | apply pw_below_drewN | apply below_drew1) | exact HB.out)⟩
    · rw [if_neg c5] at H
      exact absurd H (by simp)
  · rw [if_neg c4] at H
    exact absurd H (by simp)

/-! ### vec_Add: function 36 -/
def vec_Add.l0 : Nat → List Int → List Int → List Int → Int → Int → Int → Option (List Int)
  | 0, _, _, _, _, _, _ => none
  | k + 1, x0, x1, x5, x6, x15, x16 => if x16 < x15 then ((vec_at.f x0 x16).bind fun t126 => ((vec_at.f x1 x16).bind fun t127 => ((bits_Add64.f t126 t127 x6).bind fun bt128 => (if 0 ≤ x16 then (if x16 < (x5.length : Int) then (vec_Add.l0 k x0 x1 (x5.set (x16 : Int).toNat bt128.1) bt128.2 x15 (wrap64 (x16 + 1))) else (none)) else (none))))) else (some x5)
def vec_Add.f (k : Nat) (l0 : List Int) (l1 : List Int) : Option (List Int) := if 0 ≤ (mx (l0.length : Int) (l1.length : Int)) then (if (mx (l0.length : Int) (l1.length : Int) : Int).toNat ≤ 35184372088832 then ((some (List.replicate (mx (l0.length : Int) (l1.length : Int) : Int).toNat 0 : List Int)).bind fun y123 => (vec_Add.l0 k l0 l1 y123 0 (y123.length : Int) 0)) else (none)) else (none)
theorem vec_Add.mono_l : ∀ k, (∀ y0 y1 y2 y3 y4 y5, LeO (vec_Add.l0 k y0 y1 y2 y3 y4 y5) (vec_Add.l0 (k + 1) y0 y1 y2 y3 y4 y5))
  | 0 => fun _ _ _ _ _ _ r h => by simp [vec_Add.l0] at h
  | k + 1 => by
    have ih0 := vec_Add.mono_l k
    · intro y0 y1 y2 y3 y4 y5
      unfold vec_Add.l0
      repeat' first
      | (with_reducible exact ih0 _ _ _ _ _ _)
      | (with_reducible exact LeO.refl _)
      | (with_reducible exact LeO.none _)
      | (with_reducible refine LeO.ite ?_ ?_)
      | (with_reducible refine LeO.bind ?_ (fun _ => ?_))
      | exact ih0 _ _ _ _ _ _
      | exact LeO.none _
      | refine LeO.ite ?_ ?_
      | refine LeO.bind ?_ (fun _ => ?_)
theorem vec_Add.mono : ∀ a0 a1 k, LeO (vec_Add.f k a0 a1) (vec_Add.f (k + 1) a0 a1) := by
  intro a0 a1 k
  have ih0 := vec_Add.mono_l k
  unfold vec_Add.f
  repeat' first
      | (with_reducible exact ih0 _ _ _ _ _ _)
      | (with_reducible exact LeO.refl _)
      | (with_reducible exact LeO.none _)
      | (with_reducible refine LeO.ite ?_ ?_)
      | (with_reducible refine LeO.bind ?_ (fun _ => ?_))
      | exact ih0 _ _ _ _ _ _
      | exact LeO.none _
      | refine LeO.ite ?_ ?_
      | refine LeO.bind ?_ (fun _ => ?_)
set_option maxHeartbeats 8000000 in
set_option maxRecDepth 100000 in
theorem vec_Add.calls (k : Nat) (A0 : Option Addr) (c0 : Nat) (l0 : List Int) (A1 : Option Addr) (c1 : Nat) (l1 : List Int) (r : List Int) (w : World) (hr0 : Kd.C (Kd.int .u64) w A0 l0.length l0) (hc0 : l0.length ≤ c0) (hr1 : Kd.C (Kd.int .u64) w A1 l1.length l1) (hc1 : l1.length ≤ c1) (h : vec_Add.f k l0 l1 = some r) :
    Calls Try.prog 36 #[.slice A0 l0.length c0, .slice A1 l1.length c1] w fun e w' => ∃ v0_ : Value, e = .returned (v0_) ∧ Kd.R (Kd.int .u64) 36 w' w.heap.size (fun _ => True) v0_ r ∧ Below w.heap.size w w' := by
  have HR0 := Aside0.mk hr0
  have HC0 := Aside0.mk hc0
  clear hr0 hc0
  have HR1 := Aside0.mk hr1
  have HC1 := Aside0.mk hc1
  clear hr1 hc1
  have HB := Aside0.mk (Below.refl w.heap.size w)
  have H : (if 0 ≤ (mx (l0.length : Int) (l1.length : Int)) then (if (mx (l0.length : Int) (l1.length : Int) : Int).toNat ≤ 35184372088832 then ((some (List.replicate (mx (l0.length : Int) (l1.length : Int) : Int).toNat 0 : List Int)).bind fun y123 => (vec_Add.l0 k l0 l1 y123 0 (y123.length : Int) 0)) else (none)) else (none)) = some r := h
  clear h
  obtain ⟨ji3, hji3⟩ : ∃ j_ : Int, (mx (l0.length : Int) (l1.length : Int)) = j_ := ⟨_, rfl⟩
  replace H : (if 0 ≤ (ji3) then (if (ji3 : Int).toNat ≤ 35184372088832 then ((some (List.replicate (ji3 : Int).toNat 0 : List Int)).bind fun y123 => (vec_Add.l0 k l0 l1 y123 0 (y123.length : Int) 0)) else (none)) else (none)) = some r := by first | (rw [hji3] at H; exact H) | (simp only [hji3] at H ⊢; exact H)
  (try (have hji3l : 0 ≤ ji3 := by (rw [← hji3]; unfold mx; (repeat' split) <;> omega)))
  (try (have hji3m : 0 ≤ ji3 := by omega))
  have hji3_ : (if (l0.length : Int) < (l1.length : Int) then (l1.length : Int) else (l0.length : Int)) = ji3 := hji3
  have hji3_0 : (if l0.length < l1.length then (l1.length : Int) else (l0.length : Int)) = ji3 := by rw [← hji3_]; simp only [Int.ofNat_lt]
  by_cases c4 : 0 ≤ (ji3)
  · rw [if_pos c4] at H
    have c4b0 := eq_true c4
    have c4b1 : decide (0 ≤ (ji3)) = true := decide_eq_true c4
    clear c4
    by_cases c5 : (ji3 : Int).toNat ≤ 35184372088832
    · rw [if_pos c5] at H
      have c5b0 := eq_true c5
      have c5b1 : decide ((ji3 : Int).toNat ≤ 35184372088832) = true := decide_eq_true c5
      clear c5
      obtain ⟨y123, hy123⟩ : ∃ y_ : List Int, y_ = (List.replicate (ji3 : Int).toNat 0) := ⟨_, rfl⟩
      replace H : (vec_Add.l0 k l0 l1 y123 0 (y123.length : Int) 0) = some r := by first | (rw [hy123]; with_reducible exact H) | (have H2_ := (Option.bind_some _ _).symm.trans H; rw [hy123]; with_reducible exact H2_) | (have H2_ := (Option.bind_some _ _).symm.trans H; with_reducible exact H2_) | with_reducible exact H | (rw [hy123]; exact H) | exact H
      have Ny123 := Aside0.mk hy123
      clear hy123
      have H' := Aside0.mk H
      clear H
      go_enter Try.func36, Try.ntmps36
      go_wp2_with (first | ((with_reducible refine gate_dst (N := 13) rfl ?_); refine Kd.R_make (Kd.int .u64) _ 36 rfl (N := 13) rfl 31 _ _ rfl ji3 rfl rfl Try.underlying31 (.int .u64 0) 8 info36 rfl (by decide) (by omega) 0 (ok := fun _ => True) (okp := fun _ => True) rfl (fun _ hk => hk) trivial (of_decide_eq_true (by first | (with_reducible assumption) | assumption)) (Nat.le_trans (Nat.mul_le_mul_right _ (of_decide_eq_true (by first | (with_reducible assumption) | assumption) : ji3.toNat ≤ 35184372088832)) (by omega)) (Below.refl _ _) (Nat.le_refl _) ?_; intro v124 w6 ho7 hb hg_ hnew_; clear hg_ hnew_; (first | rw [← Ny123.out] at ho7 | (simp only [Int.reduceToNat] at ho7; rw [← Ny123.out] at ho7)); have n0_ := Aside0.mk (Kd.R_lower ho7 (below_size (by repeat (first | (with_reducible first | exact HB.out | apply below_alloc | apply pw_below_drewN | apply below_drew1) | exact HB.out)))); have n1_ := Aside0.mk (below_step (by repeat (first | (with_reducible first | exact HB.out | apply below_alloc | apply pw_below_drewN | apply below_drew1) | exact HB.out)) hb); clear HB; have HO125 := n0_; have HB := n1_; clear n0_ n1_; clear hb ho7; obtain ⟨Ao8, co8, eo8⟩ := Kd.R_slice HO125.out; subst eo8))
      go_loopg [6, 16] k (fun kq v6 v16 w' => ∃ (x5_1 : List Int) (x6_1 : Int) (x16_1 : Int), v6 = .int .u64 x6_1 ∧ v16 = .int .i64 x16_1 ∧ Aside0 (vec_Add.l0 kq l0 l1 x5_1 x6_1 (y123.length : Int) x16_1 = some r) ∧ Aside0 (kq ≤ k) ∧ Aside0 (Kd.R (Kd.int .u64) 36 w' w.heap.size (fun _ => True) (.slice Ao8 y123.length co8) x5_1) ∧ Aside0 (Below w.heap.size w w'))
      case atStart => exact ⟨(y123), (0), (0), (by first | rfl | (simp; done) | (simp [*]; done)), (by first | rfl | (simp; done) | (simp [*]; done)), H', ⟨Nat.le_refl _⟩, ⟨by (with_reducible repeat (first | apply Kd.R_alloc | apply Kd.R_drewN | apply Kd.R_drew)); exact HO125.out⟩, ⟨by repeat (first | (with_reducible first | exact HB.out | apply below_alloc | apply pw_below_drewN | apply below_drew1) | exact HB.out)⟩⟩
      case round =>
        clear H'
        try clear c1
        try clear p2
        try clear c3
        try clear c4
        try clear c4b0
        try clear c4b1
        try clear c5
        try clear c5b0
        try clear c5b1
        obtain ⟨x5_1, x6_1, x16_1, rfl, rfl, HA, HK1, HO_5, HB⟩ := hrel
        have hl5_1 := (Kd.R_reads' HO_5.out).1
        rw [hl5_1] at HO_5
        (try simp only [hl5_1])
        cases gk with
        | zero => exact absurd HA.out (by simp [vec_Add.l0])
        | succ k1 =>
          have H := HA.out
          clear HA
          simp only [vec_Add.l0] at H
          by_cases c9 : x16_1 < (y123.length : Int)
          · rw [if_pos c9] at H
            have c9b0 : decide (x16_1 < (y123.length : Int)) = true := decide_eq_true c9
            clear c9
            replace H := Option.bind_eq_some_iff.mp H
            obtain ⟨t126, A100, H⟩ := H
            replace H : ((vec_at.f l1 x16_1).bind fun t127 => ((bits_Add64.f t126 t127 x6_1).bind fun bt128 => (if 0 ≤ x16_1 then (if x16_1 < (x5_1.length : Int) then (vec_Add.l0 k1 l0 l1 (x5_1.set (x16_1 : Int).toNat bt128.1) bt128.2 (y123.length : Int) (wrap64 (x16_1 + 1))) else (none)) else (none)))) = some r := H
            have A10 := Aside0.mk A100
            clear A100
            replace H := Option.bind_eq_some_iff.mp H
            obtain ⟨t127, A110, H⟩ := H
            replace H : ((bits_Add64.f t126 t127 x6_1).bind fun bt128 => (if 0 ≤ x16_1 then (if x16_1 < (x5_1.length : Int) then (vec_Add.l0 k1 l0 l1 (x5_1.set (x16_1 : Int).toNat bt128.1) bt128.2 (y123.length : Int) (wrap64 (x16_1 + 1))) else (none)) else (none))) = some r := H
            have A11 := Aside0.mk A110
            clear A110
            replace H := Option.bind_eq_some_iff.mp H
            obtain ⟨⟨t128, t129⟩, A120, H⟩ := H
            replace H : (if 0 ≤ x16_1 then (if x16_1 < (x5_1.length : Int) then (vec_Add.l0 k1 l0 l1 (x5_1.set (x16_1 : Int).toNat t128) t129 (y123.length : Int) (wrap64 (x16_1 + 1))) else (none)) else (none)) = some r := H
            have A12 := Aside0.mk A120
            clear A120
            by_cases c13 : 0 ≤ x16_1
            · rw [if_pos c13] at H
              have c13b0 : decide (0 ≤ x16_1) = true := decide_eq_true c13
              clear c13
              by_cases c14 : x16_1 < (x5_1.length : Int)
              · rw [if_pos c14] at H
                have c14b0 : decide (x16_1 < (x5_1.length : Int)) = true := decide_eq_true c14
                clear c14
                obtain ⟨y130, hy130⟩ : ∃ y_ : List Int, y_ = (x5_1.set (x16_1 : Int).toNat t128) := ⟨_, rfl⟩
                replace H : (vec_Add.l0 k1 l0 l1 y130 t129 (y123.length : Int) (wrap64 (x16_1 + 1))) = some r := by first | (rw [hy130]; with_reducible exact H) | (have H2_ := (Option.bind_some _ _).symm.trans H; rw [hy130]; with_reducible exact H2_) | (have H2_ := (Option.bind_some _ _).symm.trans H; with_reducible exact H2_) | with_reducible exact H | (rw [hy130]; exact H) | exact H
                have Ny130 := Aside0.mk hy130
                clear hy130
                have H' := Aside0.mk H
                clear H
                go_wp2_with (first | ((with_reducible refine gate_callee (f := 49) rfl ?_); refine goesL_ (some 24) rfl rfl Try.func49 (by kernel_rfl) rfl #[.slice A0 l0.length c0, .int .i64 x16_1] rfl (by (try simp only [List.map_toArray, List.map_cons, List.map_nil]); first | done | rfl | (simp only [List.length_drop, List.length_take]; rfl)) ?_; (with_reducible refine (vec_at.calls _ _ l0 x16_1 t126 _ ?side1 ?side2 A10.out).mono ?_); (case side1 => repeat (first | exact (Kd.C_below HR0.out HB.out) | (with_reducible refine Kd.C_alloc ?_ _) | (with_reducible refine Kd.C_drewN ?_ _) | (with_reducible refine Kd.C_drew ?_))); (case side2 => exact HC0.out); rintro e w' ⟨rfl, ⟨nd, rfl⟩⟩; refine ⟨_, rfl, ?_⟩; (try (rw [drewN_self wr]; generalize hq_ : World.drewN wr _ = wr; have n0_ : Aside0 (Kd.R (Kd.int .u64) 36 wr w.heap.size (fun _ => True) (.slice Ao8 x5_1.length co8) x5_1) := ⟨by rw [← hq_]; exact (by (with_reducible repeat (first | apply Kd.R_alloc | apply Kd.R_drewN | apply Kd.R_drew)); exact HO_5.out)⟩; have n1_ : Aside0 (Below w.heap.size w wr) := ⟨by rw [← hq_]; exact (by repeat (first | (with_reducible first | exact HB.out | apply below_alloc | apply pw_below_drewN | apply below_drew1) | exact HB.out))⟩; clear HO_5 HB hq_; have HO_5 := n0_; have HB := n1_; clear n0_ n1_))) | ((with_reducible refine gate_callee (f := 49) rfl ?_); refine goesL_ (some 27) rfl rfl Try.func49 (by kernel_rfl) rfl #[.slice A1 l1.length c1, .int .i64 x16_1] rfl (by (try simp only [List.map_toArray, List.map_cons, List.map_nil]); first | done | rfl | (simp only [List.length_drop, List.length_take]; rfl)) ?_; (with_reducible refine (vec_at.calls _ _ l1 x16_1 t127 _ ?side1 ?side2 A11.out).mono ?_); (case side1 => repeat (first | exact (Kd.C_below HR1.out HB.out) | (with_reducible refine Kd.C_alloc ?_ _) | (with_reducible refine Kd.C_drewN ?_ _) | (with_reducible refine Kd.C_drew ?_))); (case side2 => exact HC1.out); rintro e w' ⟨rfl, ⟨nd, rfl⟩⟩; refine ⟨_, rfl, ?_⟩; (try (rw [drewN_self wr]; generalize hq_ : World.drewN wr _ = wr; have n0_ : Aside0 (Kd.R (Kd.int .u64) 36 wr w.heap.size (fun _ => True) (.slice Ao8 x5_1.length co8) x5_1) := ⟨by rw [← hq_]; exact (by (with_reducible repeat (first | apply Kd.R_alloc | apply Kd.R_drewN | apply Kd.R_drew)); exact HO_5.out)⟩; have n1_ : Aside0 (Below w.heap.size w wr) := ⟨by rw [← hq_]; exact (by repeat (first | (with_reducible first | exact HB.out | apply below_alloc | apply pw_below_drewN | apply below_drew1) | exact HB.out))⟩; clear HO_5 HB hq_; have HO_5 := n0_; have HB := n1_; clear n0_ n1_))) | ((simp only [bits_Add64.run A12.out]); have p15 : 0 ≤ (x16_1 : Int) := of_decide_eq_true (by first | (with_reducible assumption) | assumption); have q15 : (x16_1 : Int) < ((x5_1.length : Int) : Int) := of_decide_eq_true (by first | (with_reducible assumption) | assumption); obtain ⟨go15, co15, eo15, gb15, gl15, cl15, HG15⟩ := Kd.R_form HO_5.out (by omega); (first | cases eo15 | (injection eo15 with ea_ en_ ec_; (first | subst ea_ | (injection ea_ with ea_; subst ea_)); subst ec_; clear en_)); have GB15 := Aside0.mk gb15; have GG15 := Aside0.mk HG15; clear gb15 gl15 HG15; obtain ⟨hx15_0, hf15_0⟩ := Kd.R_celln 0 HO_5.out (x16_1 : Int) p15 q15; replace p15 := eq_true p15; replace q15 := eq_true q15; obtain ⟨hy16_, hz16_⟩ := Kd.R_celln 0 HO_5.out (x16_1 : Int) (of_decide_eq_true (by first | (with_reducible assumption) | assumption)) (of_decide_eq_true (by first | (with_reducible assumption) | assumption)); have HP16 := Kd.R_putg HO_5.out (x16_1 : Int) t128) | ((with_reducible refine gate_store (t := 36) (p := 32) rfl ?_); refine store_event (t := 36) (p := 32) (v := ?vo_w17) (w1 := (wr.setCell ⟨go15, (x16_1 : Int).toNat, none⟩ (.int .u64 t128))) ?hg ?ho ?hn ?hr ?_; (case ho => rfl); (case hg => rfl); (case hn => rfl); (case hr => first | (go_simp; done) | (go_simp; rfl)); intro w17 hw; have hg : wr.grownBy w17 (some go15) := (by rw [hw]; exact HP16.2); have hp_ : Kd.R (Kd.int .u64) 36 w17 w.heap.size (fun _ => True) (.slice (some ⟨go15, 0, none⟩) x5_1.length co8) y130 := (by rw [hw, Ny130.out]; exact HP16.1); clear HP16; have n0_ := Aside0.mk (hp_); have n1_ := Aside0.mk ((by rw [hw]; exact below_set (HB.out) GB15.out : Below w.heap.size w w17)); clear HO_5; clear HB; have HO_5 := n0_; have HB := n1_; clear n0_ n1_; clear hg hw hp_))
                (try simp only [← hl5_1])
                go_roundg k1
                case measure => have := HK1.out; omega
                case rel => exact ⟨(y130), (t129), (wrap64 (x16_1 + 1)), (by first | rfl | (simp; done) | (simp [*]; done)), (by first | rfl | (simp; done) | (simp [*]; done)), H', ⟨by have := HK1.out; omega⟩, ⟨by (try simp only [hl5_1]); (with_reducible repeat (first | apply Kd.R_alloc | apply Kd.R_drewN | apply Kd.R_drew)); exact HO_5.out⟩, ⟨by repeat (first | (with_reducible first | exact HB.out | apply below_alloc | apply pw_below_drewN | apply below_drew1) | exact HB.out)⟩⟩
              · rw [if_neg c14] at H
                exact absurd H (by simp)
            · rw [if_neg c13] at H
              exact absurd H (by simp)
          · rw [if_neg c9] at H
            have c9b0 : decide (x16_1 < (y123.length : Int)) = false := decide_eq_false c9
            (try rw [hl5_1] at c9b0)
            clear c9
            obtain rfl := Option.some.inj H
            go_wp2
            go_ret
            exact ⟨_, by first | rfl | (simp [errW_none, errW_some] <;> rfl) | (simp only [← hji3]; first | rfl | (simp [errW_none, errW_some] <;> rfl)) | (simp [*, errW_none, errW_some] <;> rfl), by (with_reducible repeat (first | apply Kd.R_alloc | apply Kd.R_drewN | apply Kd.R_drew)); exact HO_5.out, by repeat (first | (with_reducible first | exact HB.out | apply below_alloc | apply pw_below_drewN | apply below_drew1) | exact HB.out)⟩
    · rw [if_neg c5] at H
      exact absurd H (by simp)
  · rw [if_neg c4] at H
    exact absurd H (by simp)

/-! ### vec_Sub: function 37 -/
def vec_Sub.l0 : Nat → List Int → List Int → List Int → Int → Int → Int → Option (List Int)
  | 0, _, _, _, _, _, _ => none
  | k + 1, x0, x1, x5, x6, x15, x16 => if x16 < x15 then ((vec_at.f x0 x16).bind fun t134 => ((vec_at.f x1 x16).bind fun t135 => ((bits_Sub64.f t134 t135 x6).bind fun bt136 => (if 0 ≤ x16 then (if x16 < (x5.length : Int) then (vec_Sub.l0 k x0 x1 (x5.set (x16 : Int).toNat bt136.1) bt136.2 x15 (wrap64 (x16 + 1))) else (none)) else (none))))) else (some x5)
def vec_Sub.f (k : Nat) (l0 : List Int) (l1 : List Int) : Option (List Int) := if 0 ≤ (mx (l0.length : Int) (l1.length : Int)) then (if (mx (l0.length : Int) (l1.length : Int) : Int).toNat ≤ 35184372088832 then ((some (List.replicate (mx (l0.length : Int) (l1.length : Int) : Int).toNat 0 : List Int)).bind fun y131 => (vec_Sub.l0 k l0 l1 y131 0 (y131.length : Int) 0)) else (none)) else (none)
theorem vec_Sub.mono_l : ∀ k, (∀ y0 y1 y2 y3 y4 y5, LeO (vec_Sub.l0 k y0 y1 y2 y3 y4 y5) (vec_Sub.l0 (k + 1) y0 y1 y2 y3 y4 y5))
  | 0 => fun _ _ _ _ _ _ r h => by simp [vec_Sub.l0] at h
  | k + 1 => by
    have ih0 := vec_Sub.mono_l k
    · intro y0 y1 y2 y3 y4 y5
      unfold vec_Sub.l0
      repeat' first
      | (with_reducible exact ih0 _ _ _ _ _ _)
      | (with_reducible exact LeO.refl _)
      | (with_reducible exact LeO.none _)
      | (with_reducible refine LeO.ite ?_ ?_)
      | (with_reducible refine LeO.bind ?_ (fun _ => ?_))
      | exact ih0 _ _ _ _ _ _
      | exact LeO.none _
      | refine LeO.ite ?_ ?_
      | refine LeO.bind ?_ (fun _ => ?_)
theorem vec_Sub.mono : ∀ a0 a1 k, LeO (vec_Sub.f k a0 a1) (vec_Sub.f (k + 1) a0 a1) := by
  intro a0 a1 k
  have ih0 := vec_Sub.mono_l k
  unfold vec_Sub.f
  repeat' first
      | (with_reducible exact ih0 _ _ _ _ _ _)
      | (with_reducible exact LeO.refl _)
      | (with_reducible exact LeO.none _)
      | (with_reducible refine LeO.ite ?_ ?_)
      | (with_reducible refine LeO.bind ?_ (fun _ => ?_))
      | exact ih0 _ _ _ _ _ _
      | exact LeO.none _
      | refine LeO.ite ?_ ?_
      | refine LeO.bind ?_ (fun _ => ?_)
set_option maxHeartbeats 8000000 in
set_option maxRecDepth 100000 in
theorem vec_Sub.calls (k : Nat) (A0 : Option Addr) (c0 : Nat) (l0 : List Int) (A1 : Option Addr) (c1 : Nat) (l1 : List Int) (r : List Int) (w : World) (hr0 : Kd.C (Kd.int .u64) w A0 l0.length l0) (hc0 : l0.length ≤ c0) (hr1 : Kd.C (Kd.int .u64) w A1 l1.length l1) (hc1 : l1.length ≤ c1) (h : vec_Sub.f k l0 l1 = some r) :
    Calls Try.prog 37 #[.slice A0 l0.length c0, .slice A1 l1.length c1] w fun e w' => ∃ v0_ : Value, e = .returned (v0_) ∧ Kd.R (Kd.int .u64) 36 w' w.heap.size (fun _ => True) v0_ r ∧ Below w.heap.size w w' := by
  have HR0 := Aside0.mk hr0
  have HC0 := Aside0.mk hc0
  clear hr0 hc0
  have HR1 := Aside0.mk hr1
  have HC1 := Aside0.mk hc1
  clear hr1 hc1
  have HB := Aside0.mk (Below.refl w.heap.size w)
  have H : (if 0 ≤ (mx (l0.length : Int) (l1.length : Int)) then (if (mx (l0.length : Int) (l1.length : Int) : Int).toNat ≤ 35184372088832 then ((some (List.replicate (mx (l0.length : Int) (l1.length : Int) : Int).toNat 0 : List Int)).bind fun y131 => (vec_Sub.l0 k l0 l1 y131 0 (y131.length : Int) 0)) else (none)) else (none)) = some r := h
  clear h
  obtain ⟨ji3, hji3⟩ : ∃ j_ : Int, (mx (l0.length : Int) (l1.length : Int)) = j_ := ⟨_, rfl⟩
  replace H : (if 0 ≤ (ji3) then (if (ji3 : Int).toNat ≤ 35184372088832 then ((some (List.replicate (ji3 : Int).toNat 0 : List Int)).bind fun y131 => (vec_Sub.l0 k l0 l1 y131 0 (y131.length : Int) 0)) else (none)) else (none)) = some r := by first | (rw [hji3] at H; exact H) | (simp only [hji3] at H ⊢; exact H)
  (try (have hji3l : 0 ≤ ji3 := by (rw [← hji3]; unfold mx; (repeat' split) <;> omega)))
  (try (have hji3m : 0 ≤ ji3 := by omega))
  have hji3_ : (if (l0.length : Int) < (l1.length : Int) then (l1.length : Int) else (l0.length : Int)) = ji3 := hji3
  have hji3_0 : (if l0.length < l1.length then (l1.length : Int) else (l0.length : Int)) = ji3 := by rw [← hji3_]; simp only [Int.ofNat_lt]
  by_cases c4 : 0 ≤ (ji3)
  · rw [if_pos c4] at H
    have c4b0 := eq_true c4
    have c4b1 : decide (0 ≤ (ji3)) = true := decide_eq_true c4
    clear c4
    by_cases c5 : (ji3 : Int).toNat ≤ 35184372088832
    · rw [if_pos c5] at H
      have c5b0 := eq_true c5
      have c5b1 : decide ((ji3 : Int).toNat ≤ 35184372088832) = true := decide_eq_true c5
      clear c5
      obtain ⟨y131, hy131⟩ : ∃ y_ : List Int, y_ = (List.replicate (ji3 : Int).toNat 0) := ⟨_, rfl⟩
      replace H : (vec_Sub.l0 k l0 l1 y131 0 (y131.length : Int) 0) = some r := by first | (rw [hy131]; with_reducible exact H) | (have H2_ := (Option.bind_some _ _).symm.trans H; rw [hy131]; with_reducible exact H2_) | (have H2_ := (Option.bind_some _ _).symm.trans H; with_reducible exact H2_) | with_reducible exact H | (rw [hy131]; exact H) | exact H
      have Ny131 := Aside0.mk hy131
      clear hy131
      have H' := Aside0.mk H
      clear H
      go_enter Try.func37, Try.ntmps37
      go_wp2_with (first | ((with_reducible refine gate_dst (N := 13) rfl ?_); refine Kd.R_make (Kd.int .u64) _ 36 rfl (N := 13) rfl 31 _ _ rfl ji3 rfl rfl Try.underlying31 (.int .u64 0) 8 info36 rfl (by decide) (by omega) 0 (ok := fun _ => True) (okp := fun _ => True) rfl (fun _ hk => hk) trivial (of_decide_eq_true (by first | (with_reducible assumption) | assumption)) (Nat.le_trans (Nat.mul_le_mul_right _ (of_decide_eq_true (by first | (with_reducible assumption) | assumption) : ji3.toNat ≤ 35184372088832)) (by omega)) (Below.refl _ _) (Nat.le_refl _) ?_; intro v132 w6 ho7 hb hg_ hnew_; clear hg_ hnew_; (first | rw [← Ny131.out] at ho7 | (simp only [Int.reduceToNat] at ho7; rw [← Ny131.out] at ho7)); have n0_ := Aside0.mk (Kd.R_lower ho7 (below_size (by repeat (first | (with_reducible first | exact HB.out | apply below_alloc | apply pw_below_drewN | apply below_drew1) | exact HB.out)))); have n1_ := Aside0.mk (below_step (by repeat (first | (with_reducible first | exact HB.out | apply below_alloc | apply pw_below_drewN | apply below_drew1) | exact HB.out)) hb); clear HB; have HO133 := n0_; have HB := n1_; clear n0_ n1_; clear hb ho7; obtain ⟨Ao8, co8, eo8⟩ := Kd.R_slice HO133.out; subst eo8))
      go_loopg [6, 16] k (fun kq v6 v16 w' => ∃ (x5_1 : List Int) (x6_1 : Int) (x16_1 : Int), v6 = .int .u64 x6_1 ∧ v16 = .int .i64 x16_1 ∧ Aside0 (vec_Sub.l0 kq l0 l1 x5_1 x6_1 (y131.length : Int) x16_1 = some r) ∧ Aside0 (kq ≤ k) ∧ Aside0 (Kd.R (Kd.int .u64) 36 w' w.heap.size (fun _ => True) (.slice Ao8 y131.length co8) x5_1) ∧ Aside0 (Below w.heap.size w w'))
      case atStart => exact ⟨(y131), (0), (0), (by first | rfl | (simp; done) | (simp [*]; done)), (by first | rfl | (simp; done) | (simp [*]; done)), H', ⟨Nat.le_refl _⟩, ⟨by (with_reducible repeat (first | apply Kd.R_alloc | apply Kd.R_drewN | apply Kd.R_drew)); exact HO133.out⟩, ⟨by repeat (first | (with_reducible first | exact HB.out | apply below_alloc | apply pw_below_drewN | apply below_drew1) | exact HB.out)⟩⟩
      case round =>
        clear H'
        try clear c1
        try clear p2
        try clear c3
        try clear c4
        try clear c4b0
        try clear c4b1
        try clear c5
        try clear c5b0
        try clear c5b1
        obtain ⟨x5_1, x6_1, x16_1, rfl, rfl, HA, HK1, HO_5, HB⟩ := hrel
        have hl5_1 := (Kd.R_reads' HO_5.out).1
        rw [hl5_1] at HO_5
        (try simp only [hl5_1])
        cases gk with
        | zero => exact absurd HA.out (by simp [vec_Sub.l0])
        | succ k1 =>
          have H := HA.out
          clear HA
          simp only [vec_Sub.l0] at H
          by_cases c9 : x16_1 < (y131.length : Int)
          · rw [if_pos c9] at H
            have c9b0 : decide (x16_1 < (y131.length : Int)) = true := decide_eq_true c9
            clear c9
            replace H := Option.bind_eq_some_iff.mp H
            obtain ⟨t134, A100, H⟩ := H
            replace H : ((vec_at.f l1 x16_1).bind fun t135 => ((bits_Sub64.f t134 t135 x6_1).bind fun bt136 => (if 0 ≤ x16_1 then (if x16_1 < (x5_1.length : Int) then (vec_Sub.l0 k1 l0 l1 (x5_1.set (x16_1 : Int).toNat bt136.1) bt136.2 (y131.length : Int) (wrap64 (x16_1 + 1))) else (none)) else (none)))) = some r := H
            have A10 := Aside0.mk A100
            clear A100
            replace H := Option.bind_eq_some_iff.mp H
            obtain ⟨t135, A110, H⟩ := H
            replace H : ((bits_Sub64.f t134 t135 x6_1).bind fun bt136 => (if 0 ≤ x16_1 then (if x16_1 < (x5_1.length : Int) then (vec_Sub.l0 k1 l0 l1 (x5_1.set (x16_1 : Int).toNat bt136.1) bt136.2 (y131.length : Int) (wrap64 (x16_1 + 1))) else (none)) else (none))) = some r := H
            have A11 := Aside0.mk A110
            clear A110
            replace H := Option.bind_eq_some_iff.mp H
            obtain ⟨⟨t136, t137⟩, A120, H⟩ := H
            replace H : (if 0 ≤ x16_1 then (if x16_1 < (x5_1.length : Int) then (vec_Sub.l0 k1 l0 l1 (x5_1.set (x16_1 : Int).toNat t136) t137 (y131.length : Int) (wrap64 (x16_1 + 1))) else (none)) else (none)) = some r := H
            have A12 := Aside0.mk A120
            clear A120
            by_cases c13 : 0 ≤ x16_1
            · rw [if_pos c13] at H
              have c13b0 : decide (0 ≤ x16_1) = true := decide_eq_true c13
              clear c13
              by_cases c14 : x16_1 < (x5_1.length : Int)
              · rw [if_pos c14] at H
                have c14b0 : decide (x16_1 < (x5_1.length : Int)) = true := decide_eq_true c14
                clear c14
                obtain ⟨y138, hy138⟩ : ∃ y_ : List Int, y_ = (x5_1.set (x16_1 : Int).toNat t136) := ⟨_, rfl⟩
                replace H : (vec_Sub.l0 k1 l0 l1 y138 t137 (y131.length : Int) (wrap64 (x16_1 + 1))) = some r := by first | (rw [hy138]; with_reducible exact H) | (have H2_ := (Option.bind_some _ _).symm.trans H; rw [hy138]; with_reducible exact H2_) | (have H2_ := (Option.bind_some _ _).symm.trans H; with_reducible exact H2_) | with_reducible exact H | (rw [hy138]; exact H) | exact H
                have Ny138 := Aside0.mk hy138
                clear hy138
                have H' := Aside0.mk H
                clear H
                go_wp2_with (first | ((with_reducible refine gate_callee (f := 49) rfl ?_); refine goesL_ (some 24) rfl rfl Try.func49 (by kernel_rfl) rfl #[.slice A0 l0.length c0, .int .i64 x16_1] rfl (by (try simp only [List.map_toArray, List.map_cons, List.map_nil]); first | done | rfl | (simp only [List.length_drop, List.length_take]; rfl)) ?_; (with_reducible refine (vec_at.calls _ _ l0 x16_1 t134 _ ?side1 ?side2 A10.out).mono ?_); (case side1 => repeat (first | exact (Kd.C_below HR0.out HB.out) | (with_reducible refine Kd.C_alloc ?_ _) | (with_reducible refine Kd.C_drewN ?_ _) | (with_reducible refine Kd.C_drew ?_))); (case side2 => exact HC0.out); rintro e w' ⟨rfl, ⟨nd, rfl⟩⟩; refine ⟨_, rfl, ?_⟩; (try (rw [drewN_self wr]; generalize hq_ : World.drewN wr _ = wr; have n0_ : Aside0 (Kd.R (Kd.int .u64) 36 wr w.heap.size (fun _ => True) (.slice Ao8 x5_1.length co8) x5_1) := ⟨by rw [← hq_]; exact (by (with_reducible repeat (first | apply Kd.R_alloc | apply Kd.R_drewN | apply Kd.R_drew)); exact HO_5.out)⟩; have n1_ : Aside0 (Below w.heap.size w wr) := ⟨by rw [← hq_]; exact (by repeat (first | (with_reducible first | exact HB.out | apply below_alloc | apply pw_below_drewN | apply below_drew1) | exact HB.out))⟩; clear HO_5 HB hq_; have HO_5 := n0_; have HB := n1_; clear n0_ n1_))) | ((with_reducible refine gate_callee (f := 49) rfl ?_); refine goesL_ (some 27) rfl rfl Try.func49 (by kernel_rfl) rfl #[.slice A1 l1.length c1, .int .i64 x16_1] rfl (by (try simp only [List.map_toArray, List.map_cons, List.map_nil]); first | done | rfl | (simp only [List.length_drop, List.length_take]; rfl)) ?_; (with_reducible refine (vec_at.calls _ _ l1 x16_1 t135 _ ?side1 ?side2 A11.out).mono ?_); (case side1 => repeat (first | exact (Kd.C_below HR1.out HB.out) | (with_reducible refine Kd.C_alloc ?_ _) | (with_reducible refine Kd.C_drewN ?_ _) | (with_reducible refine Kd.C_drew ?_))); (case side2 => exact HC1.out); rintro e w' ⟨rfl, ⟨nd, rfl⟩⟩; refine ⟨_, rfl, ?_⟩; (try (rw [drewN_self wr]; generalize hq_ : World.drewN wr _ = wr; have n0_ : Aside0 (Kd.R (Kd.int .u64) 36 wr w.heap.size (fun _ => True) (.slice Ao8 x5_1.length co8) x5_1) := ⟨by rw [← hq_]; exact (by (with_reducible repeat (first | apply Kd.R_alloc | apply Kd.R_drewN | apply Kd.R_drew)); exact HO_5.out)⟩; have n1_ : Aside0 (Below w.heap.size w wr) := ⟨by rw [← hq_]; exact (by repeat (first | (with_reducible first | exact HB.out | apply below_alloc | apply pw_below_drewN | apply below_drew1) | exact HB.out))⟩; clear HO_5 HB hq_; have HO_5 := n0_; have HB := n1_; clear n0_ n1_))) | ((simp only [bits_Sub64.run A12.out]); have p15 : 0 ≤ (x16_1 : Int) := of_decide_eq_true (by first | (with_reducible assumption) | assumption); have q15 : (x16_1 : Int) < ((x5_1.length : Int) : Int) := of_decide_eq_true (by first | (with_reducible assumption) | assumption); obtain ⟨go15, co15, eo15, gb15, gl15, cl15, HG15⟩ := Kd.R_form HO_5.out (by omega); (first | cases eo15 | (injection eo15 with ea_ en_ ec_; (first | subst ea_ | (injection ea_ with ea_; subst ea_)); subst ec_; clear en_)); have GB15 := Aside0.mk gb15; have GG15 := Aside0.mk HG15; clear gb15 gl15 HG15; obtain ⟨hx15_0, hf15_0⟩ := Kd.R_celln 0 HO_5.out (x16_1 : Int) p15 q15; replace p15 := eq_true p15; replace q15 := eq_true q15; obtain ⟨hy16_, hz16_⟩ := Kd.R_celln 0 HO_5.out (x16_1 : Int) (of_decide_eq_true (by first | (with_reducible assumption) | assumption)) (of_decide_eq_true (by first | (with_reducible assumption) | assumption)); have HP16 := Kd.R_putg HO_5.out (x16_1 : Int) t136) | ((with_reducible refine gate_store (t := 36) (p := 32) rfl ?_); refine store_event (t := 36) (p := 32) (v := ?vo_w17) (w1 := (wr.setCell ⟨go15, (x16_1 : Int).toNat, none⟩ (.int .u64 t136))) ?hg ?ho ?hn ?hr ?_; (case ho => rfl); (case hg => rfl); (case hn => rfl); (case hr => first | (go_simp; done) | (go_simp; rfl)); intro w17 hw; have hg : wr.grownBy w17 (some go15) := (by rw [hw]; exact HP16.2); have hp_ : Kd.R (Kd.int .u64) 36 w17 w.heap.size (fun _ => True) (.slice (some ⟨go15, 0, none⟩) x5_1.length co8) y138 := (by rw [hw, Ny138.out]; exact HP16.1); clear HP16; have n0_ := Aside0.mk (hp_); have n1_ := Aside0.mk ((by rw [hw]; exact below_set (HB.out) GB15.out : Below w.heap.size w w17)); clear HO_5; clear HB; have HO_5 := n0_; have HB := n1_; clear n0_ n1_; clear hg hw hp_))
                (try simp only [← hl5_1])
                go_roundg k1
                case measure => have := HK1.out; omega
                case rel => exact ⟨(y138), (t137), (wrap64 (x16_1 + 1)), (by first | rfl | (simp; done) | (simp [*]; done)), (by first | rfl | (simp; done) | (simp [*]; done)), H', ⟨by have := HK1.out; omega⟩, ⟨by (try simp only [hl5_1]); (with_reducible repeat (first | apply Kd.R_alloc | apply Kd.R_drewN | apply Kd.R_drew)); exact HO_5.out⟩, ⟨by repeat (first | (with_reducible first | exact HB.out | apply below_alloc | apply pw_below_drewN | apply below_drew1) | exact HB.out)⟩⟩
              · rw [if_neg c14] at H
                exact absurd H (by simp)
            · rw [if_neg c13] at H
              exact absurd H (by simp)
          · rw [if_neg c9] at H
            have c9b0 : decide (x16_1 < (y131.length : Int)) = false := decide_eq_false c9
            (try rw [hl5_1] at c9b0)
            clear c9
            obtain rfl := Option.some.inj H
            go_wp2
            go_ret
            exact ⟨_, by first | rfl | (simp [errW_none, errW_some] <;> rfl) | (simp only [← hji3]; first | rfl | (simp [errW_none, errW_some] <;> rfl)) | (simp [*, errW_none, errW_some] <;> rfl), by (with_reducible repeat (first | apply Kd.R_alloc | apply Kd.R_drewN | apply Kd.R_drew)); exact HO_5.out, by repeat (first | (with_reducible first | exact HB.out | apply below_alloc | apply pw_below_drewN | apply below_drew1) | exact HB.out)⟩
    · rw [if_neg c5] at H
      exact absurd H (by simp)
  · rw [if_neg c4] at H
    exact absurd H (by simp)

end Go.Proofs.Ytkfgkefkmofdcaa.PV
