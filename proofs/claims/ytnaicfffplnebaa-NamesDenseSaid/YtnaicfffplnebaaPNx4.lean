-- Written by a program of this repo (wip/pprint.py) over the kit's print; it is no print of the kit's own.
import Derived.Test.YtnaicfffplnebaaPNx0
import Derived.Test.YtnaicfffplnebaaPNx1
namespace Go.Proofs.Ytnaicfffplnebaa.PN
open Go.Proofs.Ytnaicfffplnebaa.Man
open Go.RowKit Go.Proofs.YtnaicfffplnebaaW.PrintWords Go.Proofs.YtnaicfffplnebaaW.PrintLast Go.Proofs.YtnaicfffplnebaaW.PrintMore
attribute [local go_sem] max2_int min2_int max_two min_two max_three min_three max_four min_four   -- for this text's walks alone
set_option linter.unusedVariables false
set_option linter.unusedSimpArgs false

/-! ### tattinglaw2_NamesDense: function 8 -/
mutual
def tattinglaw2_NamesDense.j0 : Nat → List (List Int) → List (List Int) → Bool → Option (Bool)
  | 0, _, _, _ => none
  | k + 1, x0, x1, x21 => if x21 = true then (some true) else ((names_Two.f k x0 x1).bind fun bt209 => (if bt209.2.2 < 0 then (tattinglaw2_NamesDense.j1 k bt209.1 bt209.2.1 bt209.2.2 true) else (if bt209.2.2 > 80 then (tattinglaw2_NamesDense.j1 k bt209.1 bt209.2.1 bt209.2.2 true) else (if (bt209.1.length : Int) = (x0.length : Int) then (tattinglaw2_NamesDense.j1 k bt209.1 bt209.2.1 bt209.2.2 ((bt209.2.1.length : Int) != (x1.length : Int))) else (tattinglaw2_NamesDense.j1 k bt209.1 bt209.2.1 bt209.2.2 true)))))
def tattinglaw2_NamesDense.j1 : Nat → List Int → List Int → Int → Bool → Option (Bool)
  | 0, _, _, _, _ => none
  | k + 1, x5, x6, x7, x48 => if x48 = true then (some false) else (if 0 ≤ x7 then (if (x7 : Int).toNat ≤ 281474976710656 then ((some (([] : List Int) : List Int)).bind fun y219 => (if y219.length + x5.length < 17592186044416 then ((some (y219 ++ x5 : List Int)).bind fun y222 => (if y222.length + x6.length < 17592186044416 then (tattinglaw2_NamesDense.l0 k x7 (List.replicate (x7 : Int).toNat false) (y222 ++ x6) 0) else (none))) else (none))) else (none)) else (none))
def tattinglaw2_NamesDense.l0 : Nat → Int → List Bool → List Int → Int → Option (Bool)
  | 0, _, _, _, _ => none
  | k + 1, x7, x8, x9, x10 => if x10 < (x9.length : Int) then (if 0 ≤ x10 then (if (rd x9 x10) < 0 then (some false) else (if (rd x9 x10) ≥ x7 then (some false) else (if 0 ≤ (rd x9 x10) then (if (rd x9 x10) < (x8.length : Int) then (tattinglaw2_NamesDense.l0 k x7 (x8.set ((rd x9 x10) : Int).toNat true) x9 (wrap64 (x10 + 1))) else (none)) else (none)))) else (none)) else (tattinglaw2_NamesDense.l1 k x7 x8 0)
def tattinglaw2_NamesDense.l1 : Nat → Int → List Bool → Int → Option (Bool)
  | 0, _, _, _ => none
  | k + 1, x7, x8, x11 => if x11 < x7 then (if 0 ≤ x11 then (if x11 < (x8.length : Int) then (if rdOf false x8 x11 = true then (tattinglaw2_NamesDense.l1 k x7 x8 (wrap64 (x11 + 1))) else (some false)) else (none)) else (none)) else (some true)
end
def tattinglaw2_NamesDense.f (k : Nat) (l0 : List (List Int)) (l1 : List (List Int)) : Option (Bool) := (tattinglaw2_awake.f).bind fun t206 => (if t206 = true then ((tattinglaw2_few.f k l0).bind fun t207 => (if t207 = true then ((tattinglaw2_few.f k l1).bind fun t208 => (tattinglaw2_NamesDense.j0 k l0 l1 (!t208))) else (tattinglaw2_NamesDense.j0 k l0 l1 true))) else (some false))
theorem tattinglaw2_NamesDense.mono_l : ∀ k, (∀ y0 y1 y2, LeO (tattinglaw2_NamesDense.j0 k y0 y1 y2) (tattinglaw2_NamesDense.j0 (k + 1) y0 y1 y2)) ∧ (∀ y0 y1 y2 y3, LeO (tattinglaw2_NamesDense.j1 k y0 y1 y2 y3) (tattinglaw2_NamesDense.j1 (k + 1) y0 y1 y2 y3)) ∧ (∀ y0 y1 y2 y3, LeO (tattinglaw2_NamesDense.l0 k y0 y1 y2 y3) (tattinglaw2_NamesDense.l0 (k + 1) y0 y1 y2 y3)) ∧ (∀ y0 y1 y2, LeO (tattinglaw2_NamesDense.l1 k y0 y1 y2) (tattinglaw2_NamesDense.l1 (k + 1) y0 y1 y2))
  | 0 => ⟨fun _ _ _ r h => by simp [tattinglaw2_NamesDense.j0] at h, fun _ _ _ _ r h => by simp [tattinglaw2_NamesDense.j1] at h, fun _ _ _ _ r h => by simp [tattinglaw2_NamesDense.l0] at h, fun _ _ _ r h => by simp [tattinglaw2_NamesDense.l1] at h⟩
  | k + 1 => by
    obtain ⟨ih0, ih1, ih2, ih3⟩ := tattinglaw2_NamesDense.mono_l k
    refine ⟨?_, ?_, ?_, ?_⟩
    · intro y0 y1 y2
      unfold tattinglaw2_NamesDense.j0
      repeat' first
      | (with_reducible exact ih0 _ _ _)
      | (with_reducible exact ih1 _ _ _ _)
      | (with_reducible exact ih2 _ _ _ _)
      | (with_reducible exact ih3 _ _ _)
      | (with_reducible exact names_Two.mono _ _ _)
      | (with_reducible exact tattinglaw2_few.mono _ _)
      | (with_reducible exact LeO.refl _)
      | (with_reducible exact LeO.none _)
      | (with_reducible refine LeO.ite ?_ ?_)
      | (with_reducible refine LeO.bind ?_ (fun _ => ?_))
      | exact ih0 _ _ _
      | exact ih1 _ _ _ _
      | exact ih2 _ _ _ _
      | exact ih3 _ _ _
      | exact names_Two.mono _ _ _
      | exact tattinglaw2_few.mono _ _
      | exact LeO.none _
      | refine LeO.ite ?_ ?_
      | refine LeO.bind ?_ (fun _ => ?_)
    · intro y0 y1 y2 y3
      unfold tattinglaw2_NamesDense.j1
      repeat' first
      | (with_reducible exact ih0 _ _ _)
      | (with_reducible exact ih1 _ _ _ _)
      | (with_reducible exact ih2 _ _ _ _)
      | (with_reducible exact ih3 _ _ _)
      | (with_reducible exact names_Two.mono _ _ _)
      | (with_reducible exact tattinglaw2_few.mono _ _)
      | (with_reducible exact LeO.refl _)
      | (with_reducible exact LeO.none _)
      | (with_reducible refine LeO.ite ?_ ?_)
      | (with_reducible refine LeO.bind ?_ (fun _ => ?_))
      | exact ih0 _ _ _
      | exact ih1 _ _ _ _
      | exact ih2 _ _ _ _
      | exact ih3 _ _ _
      | exact names_Two.mono _ _ _
      | exact tattinglaw2_few.mono _ _
      | exact LeO.none _
      | refine LeO.ite ?_ ?_
      | refine LeO.bind ?_ (fun _ => ?_)
    · intro y0 y1 y2 y3
      unfold tattinglaw2_NamesDense.l0
      repeat' first
      | (with_reducible exact ih0 _ _ _)
      | (with_reducible exact ih1 _ _ _ _)
      | (with_reducible exact ih2 _ _ _ _)
      | (with_reducible exact ih3 _ _ _)
      | (with_reducible exact names_Two.mono _ _ _)
      | (with_reducible exact tattinglaw2_few.mono _ _)
      | (with_reducible exact LeO.refl _)
      | (with_reducible exact LeO.none _)
      | (with_reducible refine LeO.ite ?_ ?_)
      | (with_reducible refine LeO.bind ?_ (fun _ => ?_))
      | exact ih0 _ _ _
      | exact ih1 _ _ _ _
      | exact ih2 _ _ _ _
      | exact ih3 _ _ _
      | exact names_Two.mono _ _ _
      | exact tattinglaw2_few.mono _ _
      | exact LeO.none _
      | refine LeO.ite ?_ ?_
      | refine LeO.bind ?_ (fun _ => ?_)
    · intro y0 y1 y2
      unfold tattinglaw2_NamesDense.l1
      repeat' first
      | (with_reducible exact ih0 _ _ _)
      | (with_reducible exact ih1 _ _ _ _)
      | (with_reducible exact ih2 _ _ _ _)
      | (with_reducible exact ih3 _ _ _)
      | (with_reducible exact names_Two.mono _ _ _)
      | (with_reducible exact tattinglaw2_few.mono _ _)
      | (with_reducible exact LeO.refl _)
      | (with_reducible exact LeO.none _)
      | (with_reducible refine LeO.ite ?_ ?_)
      | (with_reducible refine LeO.bind ?_ (fun _ => ?_))
      | exact ih0 _ _ _
      | exact ih1 _ _ _ _
      | exact ih2 _ _ _ _
      | exact ih3 _ _ _
      | exact names_Two.mono _ _ _
      | exact tattinglaw2_few.mono _ _
      | exact LeO.none _
      | refine LeO.ite ?_ ?_
      | refine LeO.bind ?_ (fun _ => ?_)
theorem tattinglaw2_NamesDense.mono : ∀ a0 a1 k, LeO (tattinglaw2_NamesDense.f k a0 a1) (tattinglaw2_NamesDense.f (k + 1) a0 a1) := by
  intro a0 a1 k
  obtain ⟨ih0, ih1, ih2, ih3⟩ := tattinglaw2_NamesDense.mono_l k
  unfold tattinglaw2_NamesDense.f
  repeat' first
      | (with_reducible exact ih0 _ _ _)
      | (with_reducible exact ih1 _ _ _ _)
      | (with_reducible exact ih2 _ _ _ _)
      | (with_reducible exact ih3 _ _ _)
      | (with_reducible exact names_Two.mono _ _ _)
      | (with_reducible exact tattinglaw2_few.mono _ _)
      | (with_reducible exact LeO.refl _)
      | (with_reducible exact LeO.none _)
      | (with_reducible refine LeO.ite ?_ ?_)
      | (with_reducible refine LeO.bind ?_ (fun _ => ?_))
      | exact ih0 _ _ _
      | exact ih1 _ _ _ _
      | exact ih2 _ _ _ _
      | exact ih3 _ _ _
      | exact names_Two.mono _ _ _
      | exact tattinglaw2_few.mono _ _
      | exact LeO.none _
      | refine LeO.ite ?_ ?_
      | refine LeO.bind ?_ (fun _ => ?_)
set_option maxHeartbeats 8000000 in
set_option maxRecDepth 100000 in
theorem tattinglaw2_NamesDense.calls (k : Nat) (A0 : Option Addr) (c0 : Nat) (l0 : List (List Int)) (A1 : Option Addr) (c1 : Nat) (l1 : List (List Int)) (r : Bool) (w : World) (hr0 : Kd.C (Kd.slice 5 (Kd.int .u8)) w A0 l0.length l0) (hc0 : l0.length ≤ c0) (hr1 : Kd.C (Kd.slice 5 (Kd.int .u8)) w A1 l1.length l1) (hc1 : l1.length ≤ c1) (h : tattinglaw2_NamesDense.f k l0 l1 = some r) :
    Calls Try.prog 8 #[.slice A0 l0.length c0, .slice A1 l1.length c1] w fun e w' => e = .returned (.bool r) ∧ Below w.heap.size w w' := by
  have HR0 := Aside0.mk hr0
  have HC0 := Aside0.mk hc0
  clear hr0 hc0
  have HR1 := Aside0.mk hr1
  have HC1 := Aside0.mk hc1
  clear hr1 hc1
  have HB := Aside0.mk (Below.refl w.heap.size w)
  have H : ((tattinglaw2_awake.f).bind fun t206 => (if t206 = true then ((tattinglaw2_few.f k l0).bind fun t207 => (if t207 = true then ((tattinglaw2_few.f k l1).bind fun t208 => (tattinglaw2_NamesDense.j0 k l0 l1 (!t208))) else (tattinglaw2_NamesDense.j0 k l0 l1 true))) else (some false))) = some r := h
  clear h
  replace H := Option.bind_eq_some_iff.mp H
  obtain ⟨t206, A30, H⟩ := H
  replace H : (if t206 = true then ((tattinglaw2_few.f k l0).bind fun t207 => (if t207 = true then ((tattinglaw2_few.f k l1).bind fun t208 => (tattinglaw2_NamesDense.j0 k l0 l1 (!t208))) else (tattinglaw2_NamesDense.j0 k l0 l1 true))) else (some false)) = some r := H
  have A3 := Aside0.mk A30
  clear A30
  by_cases c4 : t206 = true
  · subst c4
    have H1 : ((tattinglaw2_few.f k l0).bind fun t207 => (if t207 = true then ((tattinglaw2_few.f k l1).bind fun t208 => (tattinglaw2_NamesDense.j0 k l0 l1 (!t208))) else (tattinglaw2_NamesDense.j0 k l0 l1 true))) = some r := by rw [if_pos rfl] at H; exact H
    clear H
    have H := H1
    clear H1
    have HC5 := Aside0.mk H
    clear H
    go_enter Try.func8, Try.ntmps8
    go_upto_region 3 with (first | ((with_reducible refine gate_callee (f := 13) rfl ?_); refine goesL_ (some 12) rfl rfl Try.func13 (by kernel_rfl) rfl #[] rfl (by (try simp only [List.map_toArray, List.map_cons, List.map_nil]); first | done | rfl | (simp only [List.length_drop, List.length_take]; rfl)) ?_; (with_reducible refine (tattinglaw2_awake.calls  true _ A3.out).mono ?_); rintro e w6 ⟨rfl, hb⟩; refine ⟨_, rfl, ?_⟩; have n0_ := Aside0.mk (below_step (by repeat (first | (with_reducible first | exact HB.out | apply below_alloc | apply pw_below_drewN | apply below_drew1) | exact HB.out)) hb); clear HB; have HB := n0_; clear n0_; (try clear hb); (try clear hb2); (try clear hk); (try clear hi)))
    (try simp only [Act.put, List.setIfInBounds_toArray, List.set_cons_zero, List.set_cons_succ])
    go_cut [21] (fun v21 wc => ∃ (kq : Nat) (x21_4 : Bool), v21 = .bool x21_4 ∧ Aside0 (tattinglaw2_NamesDense.j0 kq l0 l1 x21_4 = some r) ∧ Aside0 (kq ≤ k) ∧ Aside0 (Below w.heap.size w wc))
    case first =>
      have H := HC5.out
      clear HC5
      replace H := Option.bind_eq_some_iff.mp H
      obtain ⟨t207, A70, H⟩ := H
      replace H : (if t207 = true then ((tattinglaw2_few.f k l1).bind fun t208 => (tattinglaw2_NamesDense.j0 k l0 l1 (!t208))) else (tattinglaw2_NamesDense.j0 k l0 l1 true)) = some r := H
      have A7 := Aside0.mk A70
      clear A70
      by_cases c8 : t207 = true
      · subst c8
        have H1 : ((tattinglaw2_few.f k l1).bind fun t208 => (tattinglaw2_NamesDense.j0 k l0 l1 (!t208))) = some r := by rw [if_pos rfl] at H; exact H
        clear H
        have H := H1
        clear H1
        replace H := Option.bind_eq_some_iff.mp H
        obtain ⟨t208, A90, H⟩ := H
        replace H : (tattinglaw2_NamesDense.j0 k l0 l1 (!t208)) = some r := H
        have A9 := Aside0.mk A90
        clear A90
        have H' := Aside0.mk H
        clear H
        go_wp2_with (first | ((with_reducible refine gate_callee (f := 15) rfl ?_); refine goesL_ (some 15) rfl rfl Try.func15 (by kernel_rfl) rfl #[.slice A0 l0.length c0] rfl (by (try simp only [List.map_toArray, List.map_cons, List.map_nil]); first | done | rfl | (simp only [List.length_drop, List.length_take]; rfl)) ?_; (with_reducible refine (tattinglaw2_few.calls k _ _ l0 true _ ?side1 ?side2 A7.out).mono ?_); (case side1 => repeat (first | exact (Kd.C_below HR0.out HB.out) | (with_reducible refine Kd.C_alloc ?_ _) | (with_reducible refine Kd.C_drewN ?_ _) | (with_reducible refine Kd.C_drew ?_))); (case side2 => exact HC0.out); rintro e w' ⟨rfl, ⟨nd, rfl⟩⟩; refine ⟨_, rfl, ?_⟩) | (go_at_call 15; (with_reducible refine (tattinglaw2_few.calls k _ _ l1 t208 _ ?side1 ?side2 A9.out).mono ?_); (case side1 => repeat (first | exact (Kd.C_below HR1.out (by repeat (first | (with_reducible first | exact HB.out | apply below_alloc | apply pw_below_drewN | apply below_drew1) | exact HB.out))) | (with_reducible refine Kd.C_alloc ?_ _) | (with_reducible refine Kd.C_drewN ?_ _) | (with_reducible refine Kd.C_drew ?_))); (case side2 => exact HC1.out); rintro e w' ⟨rfl, ⟨nd, rfl⟩⟩))
        go_meet
        case rel => exact ⟨_, (!t208), (by first | rfl | (simp; done) | (simp [*]; done)), H', ⟨by first | omega | exact Nat.le_refl _⟩, ⟨by repeat (first | (with_reducible first | exact HB.out | apply below_alloc | apply pw_below_drewN | apply below_drew1) | exact HB.out)⟩⟩
      · replace c8 := Bool.eq_false_iff.mpr c8
        subst c8
        have H1 : (tattinglaw2_NamesDense.j0 k l0 l1 true) = some r := by rw [if_neg (show ¬ (false = true) by decide)] at H; exact H
        clear H
        have H := H1
        clear H1
        have H' := Aside0.mk H
        clear H
        go_wp2_with (first | ((with_reducible refine gate_callee (f := 15) rfl ?_); refine goesL_ (some 15) rfl rfl Try.func15 (by kernel_rfl) rfl #[.slice A0 l0.length c0] rfl (by (try simp only [List.map_toArray, List.map_cons, List.map_nil]); first | done | rfl | (simp only [List.length_drop, List.length_take]; rfl)) ?_; (with_reducible refine (tattinglaw2_few.calls k _ _ l0 false _ ?side1 ?side2 A7.out).mono ?_); (case side1 => repeat (first | exact (Kd.C_below HR0.out HB.out) | (with_reducible refine Kd.C_alloc ?_ _) | (with_reducible refine Kd.C_drewN ?_ _) | (with_reducible refine Kd.C_drew ?_))); (case side2 => exact HC0.out); rintro e w' ⟨rfl, ⟨nd, rfl⟩⟩; refine ⟨_, rfl, ?_⟩))
        go_meet
        case rel => exact ⟨_, (true), (by first | rfl | (simp; done) | (simp [*]; done)), H', ⟨by first | omega | exact Nat.le_refl _⟩, ⟨by repeat (first | (with_reducible first | exact HB.out | apply below_alloc | apply pw_below_drewN | apply below_drew1) | exact HB.out)⟩⟩
    case rest =>
      clear HC5
      try clear c1
      try clear p2
      try clear c4
      try clear c8
      obtain ⟨kq, x21_4, rfl, HA, HJ4, HB⟩ := hcut
      cases kq with
      | zero => exact absurd HA.out (by simp [tattinglaw2_NamesDense.j0])
      | succ kj4 =>
        have H := HA.out
        clear HA
        simp only [tattinglaw2_NamesDense.j0] at H
        by_cases c10 : x21_4 = true
        · subst c10
          have H1 : (some true) = some r := by rw [if_pos rfl] at H; exact H
          clear H
          have H := H1
          clear H1
          obtain rfl := Option.some.inj H
          go_wp2
          go_ret
          exact ⟨by first | rfl | (simp [errW_none, errW_some] <;> rfl) | (simp [*, errW_none, errW_some] <;> rfl), by repeat (first | (with_reducible first | exact HB.out | apply below_alloc | apply pw_below_drewN | apply below_drew1) | exact HB.out)⟩
        · replace c10 := Bool.eq_false_iff.mpr c10
          subst c10
          have H1 : ((names_Two.f kj4 l0 l1).bind fun bt209 => (if bt209.2.2 < 0 then (tattinglaw2_NamesDense.j1 kj4 bt209.1 bt209.2.1 bt209.2.2 true) else (if bt209.2.2 > 80 then (tattinglaw2_NamesDense.j1 kj4 bt209.1 bt209.2.1 bt209.2.2 true) else (if (bt209.1.length : Int) = (l0.length : Int) then (tattinglaw2_NamesDense.j1 kj4 bt209.1 bt209.2.1 bt209.2.2 ((bt209.2.1.length : Int) != (l1.length : Int))) else (tattinglaw2_NamesDense.j1 kj4 bt209.1 bt209.2.1 bt209.2.2 true))))) = some r := by rw [if_neg (show ¬ (false = true) by decide)] at H; exact H
          clear H
          have H := H1
          clear H1
          replace H := Option.bind_eq_some_iff.mp H
          obtain ⟨⟨t209, t210, t211⟩, A110, H⟩ := H
          replace H : (if t211 < 0 then (tattinglaw2_NamesDense.j1 kj4 t209 t210 t211 true) else (if t211 > 80 then (tattinglaw2_NamesDense.j1 kj4 t209 t210 t211 true) else (if (t209.length : Int) = (l0.length : Int) then (tattinglaw2_NamesDense.j1 kj4 t209 t210 t211 ((t210.length : Int) != (l1.length : Int))) else (tattinglaw2_NamesDense.j1 kj4 t209 t210 t211 true)))) = some r := H
          have A11 := Aside0.mk A110
          clear A110
          have HC12 := Aside0.mk H
          clear H
          go_upto_region 6 with (first | ((with_reducible refine gate_callee (f := 12) rfl ?_); refine goesL_ (some 25) rfl rfl Try.func12 (by kernel_rfl) rfl #[.slice A0 l0.length c0, .slice A1 l1.length c1] rfl (by (try simp only [List.map_toArray, List.map_cons, List.map_nil]); first | done | rfl | (simp only [List.length_drop, List.length_take]; rfl)) ?_; (with_reducible refine (names_Two.calls kj4 _ _ l0 _ _ l1 t209 t210 t211 _ ?side1 ?side2 ?side3 ?side4 A11.out).mono ?_); (case side1 => repeat (first | exact (Kd.C_below HR0.out HB.out) | (with_reducible refine Kd.C_alloc ?_ _) | (with_reducible refine Kd.C_drewN ?_ _) | (with_reducible refine Kd.C_drew ?_))); (case side2 => exact HC0.out); (case side3 => repeat (first | exact (Kd.C_below HR1.out HB.out) | (with_reducible refine Kd.C_alloc ?_ _) | (with_reducible refine Kd.C_drewN ?_ _) | (with_reducible refine Kd.C_drew ?_))); (case side4 => exact HC1.out); rintro e w13 ⟨v212, v214, rfl, ho0, ho1, hb⟩; refine ⟨_, rfl, ?_⟩; have n0_ := Aside0.mk (Kd.R_lower ho0 (below_size (by repeat (first | (with_reducible first | exact HB.out | apply below_alloc | apply pw_below_drewN | apply below_drew1) | exact HB.out)))); have n1_ := Aside0.mk (Kd.R_lower ho1 (below_size (by repeat (first | (with_reducible first | exact HB.out | apply below_alloc | apply pw_below_drewN | apply below_drew1) | exact HB.out)))); have n2_ := Aside0.mk (below_step (by repeat (first | (with_reducible first | exact HB.out | apply below_alloc | apply pw_below_drewN | apply below_drew1) | exact HB.out)) hb); clear HB; have HO213 := n0_; have HO215 := n1_; have HB := n2_; clear n0_ n1_ n2_; (try clear hb); (try clear hb2); (try clear hk); (try clear hi); (try clear ho0); (try clear ho1)))
          (try simp only [Act.put, List.setIfInBounds_toArray, List.set_cons_zero, List.set_cons_succ])
          go_cut [48] (fun v48 wc => ∃ (kq : Nat) (x48_11 : Bool), v48 = .bool x48_11 ∧ Aside0 (tattinglaw2_NamesDense.j1 kq t209 t210 t211 x48_11 = some r) ∧ Aside0 (kq ≤ kj4) ∧ Aside0 (Kd.R (Kd.int .i64) 3 wc w.heap.size (fun k_ => some k_ ≠ (v214 : Value).ownBlock) v212 t209) ∧ Aside0 (Kd.R (Kd.int .i64) 3 wc w.heap.size (fun k_ => some k_ ≠ (v212 : Value).ownBlock) v214 t210) ∧ Aside0 (Below w.heap.size w wc))
          case first =>
            have H := HC12.out
            clear HC12
            by_cases c14 : t211 < 0
            · rw [if_pos c14] at H
              have c14b0 : decide (t211 < 0) = true := decide_eq_true c14
              clear c14
              (first | rw [c14b0] | (simp only [i64_w, i32_w]; rw [c14b0]) | skip)
              have H' := Aside0.mk H
              clear H
              go_wp2
              go_meet
              case rel => exact ⟨_, (true), (by first | rfl | (simp; done) | (simp [*]; done)), H', ⟨by have := HJ4.out; first | omega | exact Nat.le_refl _⟩, ⟨by (with_reducible repeat (first | apply Kd.R_alloc | apply Kd.R_drewN | apply Kd.R_drew)); exact HO213.out⟩, ⟨by (with_reducible repeat (first | apply Kd.R_alloc | apply Kd.R_drewN | apply Kd.R_drew)); exact HO215.out⟩, ⟨by repeat (first | (with_reducible first | exact HB.out | apply below_alloc | apply pw_below_drewN | apply below_drew1) | exact HB.out)⟩⟩
            · rw [if_neg c14] at H
              have c14b0 : decide (t211 < 0) = false := decide_eq_false c14
              clear c14
              (first | rw [c14b0] | (simp only [i64_w, i32_w]; rw [c14b0]) | skip)
              by_cases c15 : t211 > 80
              · rw [if_pos c15] at H
                have c15b0 : decide (80 < t211) = true := decide_eq_true c15
                clear c15
                have H' := Aside0.mk H
                clear H
                go_wp2
                go_meet
                case rel => exact ⟨_, (true), (by first | rfl | (simp; done) | (simp [*]; done)), H', ⟨by have := HJ4.out; first | omega | exact Nat.le_refl _⟩, ⟨by (with_reducible repeat (first | apply Kd.R_alloc | apply Kd.R_drewN | apply Kd.R_drew)); exact HO213.out⟩, ⟨by (with_reducible repeat (first | apply Kd.R_alloc | apply Kd.R_drewN | apply Kd.R_drew)); exact HO215.out⟩, ⟨by repeat (first | (with_reducible first | exact HB.out | apply below_alloc | apply pw_below_drewN | apply below_drew1) | exact HB.out)⟩⟩
              · rw [if_neg c15] at H
                have c15b0 : decide (80 < t211) = false := decide_eq_false c15
                clear c15
                by_cases c16 : (t209.length : Int) = (l0.length : Int)
                · rw [if_pos c16] at H
                  have c16b0 : ((t209.length : Int) == (l0.length : Int)) = true := beq_iff_eq.mpr c16
                  have c16b1 : ((t209.length : Int) != (l0.length : Int)) = false := bne_eq_false_iff_eq.mpr c16
                  have c16b2 : (t209.length == l0.length) = true := by first | simpa using c16 | (simp at c16 ⊢; omega)
                  clear c16
                  have H' := Aside0.mk H
                  clear H
                  obtain ⟨Ao17, co17, eo17⟩ := Kd.R_slice HO213.out
                  subst eo17
                  obtain ⟨Ao18, co18, eo18⟩ := Kd.R_slice HO215.out
                  subst eo18
                  go_wp2
                  go_meet
                  case rel => exact ⟨_, (((t210.length : Int) != (l1.length : Int))), (by first | rfl | (simp; done) | (simp [*]; done)), H', ⟨by have := HJ4.out; first | omega | exact Nat.le_refl _⟩, ⟨by (with_reducible repeat (first | apply Kd.R_alloc | apply Kd.R_drewN | apply Kd.R_drew)); exact HO213.out⟩, ⟨by (with_reducible repeat (first | apply Kd.R_alloc | apply Kd.R_drewN | apply Kd.R_drew)); exact HO215.out⟩, ⟨by repeat (first | (with_reducible first | exact HB.out | apply below_alloc | apply pw_below_drewN | apply below_drew1) | exact HB.out)⟩⟩
                · rw [if_neg c16] at H
                  have c16b0 : ((t209.length : Int) == (l0.length : Int)) = false := beq_eq_false_iff_ne.mpr c16
                  have c16b1 : ((t209.length : Int) != (l0.length : Int)) = true := bne_iff_ne.mpr c16
                  have c16b2 : (t209.length == l0.length) = false := by first | simpa using c16 | (simp at c16 ⊢; omega)
                  have H' := Aside0.mk H
                  clear H
                  obtain ⟨Ao19, co19, eo19⟩ := Kd.R_slice HO213.out
                  subst eo19
                  go_wp2
                  go_meet
                  case rel => exact ⟨_, (true), (by first | rfl | (simp; done) | (simp [*]; done)), H', ⟨by have := HJ4.out; first | omega | exact Nat.le_refl _⟩, ⟨by (with_reducible repeat (first | apply Kd.R_alloc | apply Kd.R_drewN | apply Kd.R_drew)); exact HO213.out⟩, ⟨by (with_reducible repeat (first | apply Kd.R_alloc | apply Kd.R_drewN | apply Kd.R_drew)); exact HO215.out⟩, ⟨by repeat (first | (with_reducible first | exact HB.out | apply below_alloc | apply pw_below_drewN | apply below_drew1) | exact HB.out)⟩⟩
          case rest =>
            clear HC12
            try clear c1
            try clear p2
            try clear c4
            try clear c8
            try clear c10
            try clear c12
            try clear c13
            try clear c14
            try clear c14b0
            try clear c15
            try clear c15b0
            try clear c16
            try clear c16b0
            try clear c16b1
            try clear c16b2
            try clear p2
            obtain ⟨kq, x48_11, rfl, HA, HJ11, HO_5, HO_6, HB⟩ := hcut
            cases kq with
            | zero => exact absurd HA.out (by simp [tattinglaw2_NamesDense.j1])
            | succ kj11 =>
              have H := HA.out
              clear HA
              simp only [tattinglaw2_NamesDense.j1] at H
              by_cases c20 : x48_11 = true
              · subst c20
                have H1 : (some false) = some r := by rw [if_pos rfl] at H; exact H
                clear H
                have H := H1
                clear H1
                obtain rfl := Option.some.inj H
                go_wp2
                go_ret
                exact ⟨by first | rfl | (simp [errW_none, errW_some] <;> rfl) | (simp [*, errW_none, errW_some] <;> rfl), by repeat (first | (with_reducible first | exact HB.out | apply below_alloc | apply pw_below_drewN | apply below_drew1) | exact HB.out)⟩
              · replace c20 := Bool.eq_false_iff.mpr c20
                subst c20
                have H1 : (if 0 ≤ t211 then (if (t211 : Int).toNat ≤ 281474976710656 then ((some (([] : List Int) : List Int)).bind fun y219 => (if y219.length + t209.length < 17592186044416 then ((some (y219 ++ t209 : List Int)).bind fun y222 => (if y222.length + t210.length < 17592186044416 then (tattinglaw2_NamesDense.l0 kj11 t211 (List.replicate (t211 : Int).toNat false) (y222 ++ t210) 0) else (none))) else (none))) else (none)) else (none)) = some r := by rw [if_neg (show ¬ (false = true) by decide)] at H; exact H
                clear H
                have H := H1
                clear H1
                by_cases c21 : 0 ≤ t211
                · rw [if_pos c21] at H
                  have c21b0 := eq_true c21
                  have c21b1 : decide (0 ≤ t211) = true := decide_eq_true c21
                  clear c21
                  by_cases c22 : (t211 : Int).toNat ≤ 281474976710656
                  · rw [if_pos c22] at H
                    have c22b0 := eq_true c22
                    have c22b1 : decide ((t211 : Int).toNat ≤ 281474976710656) = true := decide_eq_true c22
                    clear c22
                    obtain ⟨y216, hy216⟩ : ∃ y_ : List Bool, y_ = (List.replicate (t211 : Int).toNat false) := ⟨_, rfl⟩
                    replace H : ((some (([] : List Int) : List Int)).bind fun y219 => (if y219.length + t209.length < 17592186044416 then ((some (y219 ++ t209 : List Int)).bind fun y222 => (if y222.length + t210.length < 17592186044416 then (tattinglaw2_NamesDense.l0 kj11 t211 y216 (y222 ++ t210) 0) else (none))) else (none))) = some r := by first | (rw [hy216]; with_reducible exact H) | (have H2_ := (Option.bind_some _ _).symm.trans H; rw [hy216]; with_reducible exact H2_) | (have H2_ := (Option.bind_some _ _).symm.trans H; with_reducible exact H2_) | with_reducible exact H | (rw [hy216]; exact H) | exact H
                    have Ny216 := Aside0.mk hy216
                    clear hy216
                    obtain ⟨y219, hy219⟩ : ∃ y_ : List Int, y_ = (([] : List Int)) := ⟨_, rfl⟩
                    replace H : (if y219.length + t209.length < 17592186044416 then ((some (y219 ++ t209 : List Int)).bind fun y222 => (if y222.length + t210.length < 17592186044416 then (tattinglaw2_NamesDense.l0 kj11 t211 y216 (y222 ++ t210) 0) else (none))) else (none)) = some r := by first | (rw [hy219]; with_reducible exact H) | (have H2_ := (Option.bind_some _ _).symm.trans H; rw [hy219]; with_reducible exact H2_) | (have H2_ := (Option.bind_some _ _).symm.trans H; with_reducible exact H2_) | with_reducible exact H | (rw [hy219]; exact H) | exact H
                    have Ny219 := Aside0.mk hy219
                    clear hy219
                    by_cases c23 : y219.length + t209.length < 17592186044416
                    · rw [if_pos c23] at H
                      have LMc23 := Aside0.mk c23
                      clear c23
                      obtain ⟨y222, hy222⟩ : ∃ y_ : List Int, y_ = (y219 ++ t209) := ⟨_, rfl⟩
                      replace H : (if y222.length + t210.length < 17592186044416 then (tattinglaw2_NamesDense.l0 kj11 t211 y216 (y222 ++ t210) 0) else (none)) = some r := by first | (rw [hy222]; with_reducible exact H) | (have H2_ := (Option.bind_some _ _).symm.trans H; rw [hy222]; with_reducible exact H2_) | (have H2_ := (Option.bind_some _ _).symm.trans H; with_reducible exact H2_) | with_reducible exact H | (rw [hy222]; exact H) | exact H
                      have Ny222 := Aside0.mk hy222
                      clear hy222
                      by_cases c24 : y222.length + t210.length < 17592186044416
                      · rw [if_pos c24] at H
                        have LMc24 := Aside0.mk c24
                        clear c24
                        obtain ⟨y225, hy225⟩ : ∃ y_ : List Int, y_ = (y222 ++ t210) := ⟨_, rfl⟩
                        replace H : (tattinglaw2_NamesDense.l0 kj11 t211 y216 y225 0) = some r := by first | (rw [hy225]; with_reducible exact H) | (have H2_ := (Option.bind_some _ _).symm.trans H; rw [hy225]; with_reducible exact H2_) | (have H2_ := (Option.bind_some _ _).symm.trans H; with_reducible exact H2_) | with_reducible exact H | (rw [hy225]; exact H) | exact H
                        have Ny225 := Aside0.mk hy225
                        clear hy225
                        have H' := Aside0.mk H
                        clear H
                        go_wp2_with (first | ((with_reducible refine gate_dst (N := 50) rfl ?_); (try (refine gate_guard (by rfl) ?_; dsimp only)); refine Kd.R_make Kd.bool _ 4 rfl (N := 50) rfl 38 _ _ rfl t211 rfl rfl Try.underlying38 (.bool false) 1 info4 rfl (by decide) (by omega) false (ok := fun _ => True) (okp := fun _ => True) rfl (fun _ hk => hk) trivial (of_decide_eq_true (by first | (with_reducible assumption) | assumption)) (Nat.le_trans (Nat.mul_le_mul_right _ (of_decide_eq_true (by first | (with_reducible assumption) | assumption) : t211.toNat ≤ 281474976710656)) (by omega)) (Below.refl _ _) (Nat.le_refl _) ?_; intro v217 w25 ho26 hb hg_ hnew_; clear hg_ hnew_; (first | rw [← Ny216.out] at ho26 | (simp only [Int.reduceToNat] at ho26; rw [← Ny216.out] at ho26)); have n0_ := Aside0.mk (Kd.R_below (by (with_reducible repeat (first | apply Kd.R_alloc | apply Kd.R_drewN | apply Kd.R_drew)); exact HO_5.out) hb); have n1_ := Aside0.mk (Kd.R_below (by (with_reducible repeat (first | apply Kd.R_alloc | apply Kd.R_drewN | apply Kd.R_drew)); exact HO_6.out) hb); have n2_ := Aside0.mk (Kd.R_lower ho26 (below_size (by repeat (first | (with_reducible first | exact HB.out | apply below_alloc | apply pw_below_drewN | apply below_drew1) | exact HB.out)))); have n3_ := Aside0.mk (below_step (by repeat (first | (with_reducible first | exact HB.out | apply below_alloc | apply pw_below_drewN | apply below_drew1) | exact HB.out)) hb); clear HO_5; clear HO_6; clear HB; have HO_5 := n0_; have HO_6 := n1_; have HO218 := n2_; have HB := n3_; clear n0_ n1_ n2_ n3_; clear hb ho26) | ((with_reducible refine gate_dst (N := 51) rfl ?_); (try (refine gate_guard (by rfl) ?_; dsimp only)); refine Kd.R_lit (Kd.int .i64) _ 3 ?hg (N := 51) ?hd (xs := ([] : List Int)) (inner := []) (ok := fun _ => True) (okp := fun _ => True) ?hr ?hp (fun _ hk => hk) trivial (Below.refl _ _) (Nat.le_refl _) (by simp) ?_; (case hd => rfl); (case hg => rfl); (case hr => first | (go_simp; done) | (go_simp; rfl)); (case hp => exact (Reps.none _ _)); intro v220 w27 ho28 hb hg_ hnew_; clear hg_ hnew_; (first | rw [← Ny219.out] at ho28 | (simp only [Int.reduceToNat] at ho28; rw [← Ny219.out] at ho28)); have n0_ := Aside0.mk (Kd.R_elder' (by (with_reducible repeat (first | apply Kd.R_alloc | apply Kd.R_drewN | apply Kd.R_drew)); exact HO_5.out) (Kd.R_base ho28) hb); have n1_ := Aside0.mk (Kd.R_elder' (by (with_reducible repeat (first | apply Kd.R_alloc | apply Kd.R_drewN | apply Kd.R_drew)); exact HO_6.out) (Kd.R_base ho28) hb); have n2_ := Aside0.mk (Kd.R_below (by (with_reducible repeat (first | apply Kd.R_alloc | apply Kd.R_drewN | apply Kd.R_drew)); exact HO218.out) hb); have n3_ := Aside0.mk (Kd.R_lower (Kd.R_new' (Kd.R_new' ho28 (Kd.R_lt (by (with_reducible repeat (first | apply Kd.R_alloc | apply Kd.R_drewN | apply Kd.R_drew)); exact HO_5.out))) (Kd.R_lt (by (with_reducible repeat (first | apply Kd.R_alloc | apply Kd.R_drewN | apply Kd.R_drew)); exact HO_6.out))) (below_size (by repeat (first | (with_reducible first | exact HB.out | apply below_alloc | apply pw_below_drewN | apply below_drew1) | exact HB.out)))); have n4_ := Aside0.mk (below_step (by repeat (first | (with_reducible first | exact HB.out | apply below_alloc | apply pw_below_drewN | apply below_drew1) | exact HB.out)) hb); clear HO_5; clear HO_6; clear HO218; clear HB; have HO_5 := n0_; have HO_6 := n1_; have HO218 := n2_; have HO221 := n3_; have HB := n4_; clear n0_ n1_ n2_ n3_ n4_; clear hb ho28; obtain ⟨Ao30, co30, eo30⟩ := Kd.R_slice HO_5.out; subst eo30) | ((with_reducible refine gate_builtin (b := .append) (xs := #[.tmp 51, .tmp 52]) rfl ?_); (try (refine gate_guard (by rfl) ?_; dsimp only)); at_builtin; refine Kd.R_append_rows (Kd.int .i64) (w0 := w) w.heap.size rfl (.tmp 51) (.tmp 52) 27 3 (.int .i64 0) 8 rfl Try.underlying27 info3 rfl (by decide) (by omega) v220 y219 t209 _ _ _ (fun k_ => some k_ ≠ (.slice Ao30 t209.length co30 : Value).ownBlock ∧ some k_ ≠ (v214 : Value).ownBlock) (fun _ => False) rfl rfl ?aO ?aR (fun _ _ h => h) (fun _ h => h.elim) ?aF ?aB ?aS ?aL ?_; (case aR => repeat (first | exact (Kd.R_reads' HO_5.out).2.2 | (with_reducible refine Kd.C_alloc ?_ _) | (with_reducible refine Kd.C_drewN ?_ _) | (with_reducible refine Kd.C_drew ?_))); (case aB => exact (by repeat (first | (with_reducible first | exact HB.out | apply below_alloc | apply pw_below_drewN | apply below_drew1) | exact HB.out))); (case aF => exact (fun k_ hk => ⟨Kd.fresh' (Kd.R_lt (by (with_reducible repeat (first | apply Kd.R_alloc | apply Kd.R_drewN | apply Kd.R_drew)); exact HO_5.out)) k_ hk, Kd.fresh' (Kd.R_lt (by (with_reducible repeat (first | apply Kd.R_alloc | apply Kd.R_drewN | apply Kd.R_drew)); exact HO_6.out)) k_ hk⟩)); (case aO => exact (by (with_reducible repeat (first | apply Kd.R_alloc | apply Kd.R_drewN | apply Kd.R_drew)); exact Kd.R_mono HO221.out (fun _ hk => ⟨hk.1.2, hk.2⟩))); (case aS => exact (below_size (by repeat (first | (with_reducible first | exact HB.out | apply below_alloc | apply pw_below_drewN | apply below_drew1) | exact HB.out)))); (case aL => have := LMc23.out; omega); intro v223 w29 ho hb hg hat; rw [← Ny222.out] at ho; have n0_ := Aside0.mk (Kd.R_after (ok := (fun k_ => some k_ ≠ (v214 : Value).ownBlock)) (by (with_reducible repeat (first | apply Kd.R_alloc | apply Kd.R_drewN | apply Kd.R_drew)); exact HO_5.out) hg hat); have n1_ := Aside0.mk (Kd.R_after (ok := (fun k_ => some k_ ≠ (.slice Ao30 t209.length co30 : Value).ownBlock)) (by (with_reducible repeat (first | apply Kd.R_alloc | apply Kd.R_drewN | apply Kd.R_drew)); exact HO_6.out) hg hat); have n2_ := Aside0.mk (Kd.R_over' (by (with_reducible repeat (first | apply Kd.R_alloc | apply Kd.R_drewN | apply Kd.R_drew)); exact HO218.out) (Kd.R_typed (by (with_reducible repeat (first | apply Kd.R_alloc | apply Kd.R_drewN | apply Kd.R_drew)); exact HO221.out)) (by decide) hg); have n3_ := Aside0.mk (hb); have n4_ := Aside0.mk (ho); clear HO_5; clear HO_6; clear HO218; clear HB; clear HO221; have HO_5 := n0_; have HO_6 := n1_; have HO218 := n2_; have HB := n3_; have HO224 := n4_; clear n0_ n1_ n2_ n3_ n4_; clear ho hb hg hat; obtain ⟨Ao32, co32, eo32⟩ := Kd.R_slice HO_6.out; subst eo32) | ((with_reducible refine gate_builtin (b := .append) (xs := #[.tmp 53, .tmp 54]) rfl ?_); (try (refine gate_guard (by rfl) ?_; dsimp only)); at_builtin; refine Kd.R_append_rows (Kd.int .i64) (w0 := w) w.heap.size rfl (.tmp 53) (.tmp 54) 27 3 (.int .i64 0) 8 rfl Try.underlying27 info3 rfl (by decide) (by omega) v223 y222 t210 _ _ _ (fun k_ => some k_ ≠ (.slice Ao30 t209.length co30 : Value).ownBlock ∧ some k_ ≠ (.slice Ao32 t210.length co32 : Value).ownBlock) (fun _ => False) rfl rfl ?aO ?aR (fun _ _ h => h) (fun _ h => h.elim) ?aF ?aB ?aS ?aL ?_; (case aR => repeat (first | exact (Kd.R_reads' HO_6.out).2.2 | (with_reducible refine Kd.C_alloc ?_ _) | (with_reducible refine Kd.C_drewN ?_ _) | (with_reducible refine Kd.C_drew ?_))); (case aB => exact (by repeat (first | (with_reducible first | exact HB.out | apply below_alloc | apply pw_below_drewN | apply below_drew1) | exact HB.out))); (case aF => exact (fun k_ hk => ⟨Kd.fresh' (Kd.R_lt (by (with_reducible repeat (first | apply Kd.R_alloc | apply Kd.R_drewN | apply Kd.R_drew)); exact HO_5.out)) k_ hk, Kd.fresh' (Kd.R_lt (by (with_reducible repeat (first | apply Kd.R_alloc | apply Kd.R_drewN | apply Kd.R_drew)); exact HO_6.out)) k_ hk⟩)); (case aO => exact (by (with_reducible repeat (first | apply Kd.R_alloc | apply Kd.R_drewN | apply Kd.R_drew)); exact HO224.out)); (case aS => exact (below_size (by repeat (first | (with_reducible first | exact HB.out | apply below_alloc | apply pw_below_drewN | apply below_drew1) | exact HB.out)))); (case aL => have := LMc24.out; omega); intro v226 w31 ho hb hg hat; rw [← Ny225.out] at ho; have n0_ := Aside0.mk (Kd.R_after (ok := (fun k_ => some k_ ≠ (.slice Ao32 t210.length co32 : Value).ownBlock)) (by (with_reducible repeat (first | apply Kd.R_alloc | apply Kd.R_drewN | apply Kd.R_drew)); exact HO_5.out) hg hat); have n1_ := Aside0.mk (Kd.R_after (ok := (fun k_ => some k_ ≠ (.slice Ao30 t209.length co30 : Value).ownBlock)) (by (with_reducible repeat (first | apply Kd.R_alloc | apply Kd.R_drewN | apply Kd.R_drew)); exact HO_6.out) hg hat); have n2_ := Aside0.mk (Kd.R_over' (by (with_reducible repeat (first | apply Kd.R_alloc | apply Kd.R_drewN | apply Kd.R_drew)); exact HO218.out) (Kd.R_typed (by (with_reducible repeat (first | apply Kd.R_alloc | apply Kd.R_drewN | apply Kd.R_drew)); exact HO224.out)) (by decide) hg); have n3_ := Aside0.mk (hb); have n4_ := Aside0.mk (ho); clear HO_5; clear HO_6; clear HO218; clear HB; clear HO224; have HO_5 := n0_; have HO_6 := n1_; have HO218 := n2_; have HB := n3_; have HO227 := n4_; clear n0_ n1_ n2_ n3_ n4_; clear ho hb hg hat))
                        go_loopg [10] kj11 (fun kq v10 w' => ∃ (x8_3 : List Bool) (x10_3 : Int), v10 = .int .i64 x10_3 ∧ Aside0 (tattinglaw2_NamesDense.l0 kq t211 x8_3 y225 x10_3 = some r) ∧ Aside0 (kq ≤ kj11) ∧ Aside0 (Kd.R Kd.bool 4 w' w.heap.size (fun _ => True) v217 x8_3) ∧ Aside0 (Kd.R (Kd.int .i64) 3 w' w.heap.size (fun _ => True) v226 y225) ∧ Aside0 (Below w.heap.size w w'))
                        case atStart => exact ⟨(y216), (0), (by first | rfl | (simp; done) | (simp [*]; done)), H', ⟨Nat.le_refl _⟩, ⟨by (with_reducible repeat (first | apply Kd.R_alloc | apply Kd.R_drewN | apply Kd.R_drew)); exact HO218.out⟩, ⟨by (with_reducible repeat (first | apply Kd.R_alloc | apply Kd.R_drewN | apply Kd.R_drew)); exact Kd.R_mono HO227.out (fun _ hk => trivial)⟩, ⟨by repeat (first | (with_reducible first | exact HB.out | apply below_alloc | apply pw_below_drewN | apply below_drew1) | exact HB.out)⟩⟩
                        case round =>
                          clear H'
                          try clear c1
                          try clear c2
                          try clear p2
                          try clear c4
                          try clear c8
                          try clear c10
                          try clear c12
                          try clear c13
                          try clear c14
                          try clear c14b0
                          try clear c15
                          try clear c15b0
                          try clear c16
                          try clear c16b0
                          try clear c16b1
                          try clear c16b2
                          try clear c20
                          try clear c21
                          try clear c21b0
                          try clear c21b1
                          try clear c22
                          try clear c22b0
                          try clear c22b1
                          try clear c23
                          try clear c24
                          try clear p2
                          obtain ⟨x8_3, x10_3, rfl, HA, HK3, HO_8, HO_9, HB⟩ := hrel
                          cases gk with
                          | zero => exact absurd HA.out (by simp [tattinglaw2_NamesDense.l0])
                          | succ k3 =>
                            have H := HA.out
                            clear HA
                            simp only [tattinglaw2_NamesDense.l0] at H
                            by_cases c33 : x10_3 < (y225.length : Int)
                            · rw [if_pos c33] at H
                              have c33b0 : decide (x10_3 < (y225.length : Int)) = true := decide_eq_true c33
                              clear c33
                              by_cases c34 : 0 ≤ x10_3
                              · rw [if_pos c34] at H
                                have c34b0 : decide (0 ≤ x10_3) = true := decide_eq_true c34
                                clear c34
                                by_cases c35 : (rd y225 x10_3) < 0
                                · rw [if_pos c35] at H
                                  have c35b0 : decide ((rd y225 x10_3) < 0) = true := decide_eq_true c35
                                  clear c35
                                  obtain rfl := Option.some.inj H
                                  obtain ⟨Ao36, co36, eo36⟩ := Kd.R_slice HO_9.out
                                  subst eo36
                                  have p228 : 0 ≤ (x10_3 : Int) := of_decide_eq_true (by first | (with_reducible assumption) | assumption)
                                  have q228 : x10_3 < (y225.length : Int) := of_decide_eq_true (by first | (with_reducible assumption) | assumption)
                                  obtain ⟨ad228, e228, hx228_0⟩ := Kd.at_int (Kd.R_reads' HO_9.out).2.2 x10_3 p228 q228
                                  cases e228
                                  replace p228 := eq_true p228
                                  replace q228 := eq_true q228
                                  go_wp2
                                  go_ret
                                  exact ⟨by first | rfl | (simp [errW_none, errW_some] <;> rfl) | (simp [*, errW_none, errW_some] <;> rfl), by repeat (first | (with_reducible first | exact HB.out | apply below_alloc | apply pw_below_drewN | apply below_drew1) | exact HB.out)⟩
                                · rw [if_neg c35] at H
                                  have c35b0 : decide ((rd y225 x10_3) < 0) = false := decide_eq_false c35
                                  clear c35
                                  by_cases c37 : (rd y225 x10_3) ≥ t211
                                  · rw [if_pos c37] at H
                                    have c37b0 : decide (t211 ≤ (rd y225 x10_3)) = true := decide_eq_true c37
                                    clear c37
                                    obtain rfl := Option.some.inj H
                                    obtain ⟨Ao38, co38, eo38⟩ := Kd.R_slice HO_9.out
                                    subst eo38
                                    have p228 : 0 ≤ (x10_3 : Int) := of_decide_eq_true (by first | (with_reducible assumption) | assumption)
                                    have q228 : x10_3 < (y225.length : Int) := of_decide_eq_true (by first | (with_reducible assumption) | assumption)
                                    obtain ⟨ad228, e228, hx228_0⟩ := Kd.at_int (Kd.R_reads' HO_9.out).2.2 x10_3 p228 q228
                                    cases e228
                                    replace p228 := eq_true p228
                                    replace q228 := eq_true q228
                                    have p229 : 0 ≤ (x10_3 : Int) := of_decide_eq_true (by first | (with_reducible assumption) | assumption)
                                    have q229 : x10_3 < (y225.length : Int) := of_decide_eq_true (by first | (with_reducible assumption) | assumption)
                                    obtain ⟨ad229, e229, hx229_0⟩ := Kd.at_int (Kd.R_reads' HO_9.out).2.2 x10_3 p229 q229
                                    obtain rfl : ad228 = ad229 := (by injection e229)
                                    replace p229 := eq_true p229
                                    replace q229 := eq_true q229
                                    go_wp2
                                    go_ret
                                    exact ⟨by first | rfl | (simp [errW_none, errW_some] <;> rfl) | (simp [*, errW_none, errW_some] <;> rfl), by repeat (first | (with_reducible first | exact HB.out | apply below_alloc | apply pw_below_drewN | apply below_drew1) | exact HB.out)⟩
                                  · rw [if_neg c37] at H
                                    have c37b0 : decide (t211 ≤ (rd y225 x10_3)) = false := decide_eq_false c37
                                    clear c37
                                    by_cases c39 : 0 ≤ (rd y225 x10_3)
                                    · rw [if_pos c39] at H
                                      have c39b0 : decide (0 ≤ (rd y225 x10_3)) = true := decide_eq_true c39
                                      clear c39
                                      by_cases c40 : (rd y225 x10_3) < (x8_3.length : Int)
                                      · rw [if_pos c40] at H
                                        have c40b0 : decide ((rd y225 x10_3) < (x8_3.length : Int)) = true := decide_eq_true c40
                                        clear c40
                                        obtain ⟨y231, hy231⟩ : ∃ y_ : List Bool, y_ = (x8_3.set ((rd y225 x10_3) : Int).toNat true) := ⟨_, rfl⟩
                                        replace H : (tattinglaw2_NamesDense.l0 k3 t211 y231 y225 (wrap64 (x10_3 + 1))) = some r := by first | (rw [hy231]; with_reducible exact H) | (have H2_ := (Option.bind_some _ _).symm.trans H; rw [hy231]; with_reducible exact H2_) | (have H2_ := (Option.bind_some _ _).symm.trans H; with_reducible exact H2_) | with_reducible exact H | (rw [hy231]; exact H) | exact H
                                        have Ny231 := Aside0.mk hy231
                                        clear hy231
                                        have H' := Aside0.mk H
                                        clear H
                                        obtain ⟨Ao42, co42, eo42⟩ := Kd.R_slice HO_9.out
                                        subst eo42
                                        have p228 : 0 ≤ (x10_3 : Int) := of_decide_eq_true (by first | (with_reducible assumption) | assumption)
                                        have q228 : x10_3 < (y225.length : Int) := of_decide_eq_true (by first | (with_reducible assumption) | assumption)
                                        obtain ⟨ad228, e228, hx228_0⟩ := Kd.at_int (Kd.R_reads' HO_9.out).2.2 x10_3 p228 q228
                                        cases e228
                                        replace p228 := eq_true p228
                                        replace q228 := eq_true q228
                                        have p229 : 0 ≤ (x10_3 : Int) := of_decide_eq_true (by first | (with_reducible assumption) | assumption)
                                        have q229 : x10_3 < (y225.length : Int) := of_decide_eq_true (by first | (with_reducible assumption) | assumption)
                                        obtain ⟨ad229, e229, hx229_0⟩ := Kd.at_int (Kd.R_reads' HO_9.out).2.2 x10_3 p229 q229
                                        obtain rfl : ad228 = ad229 := (by injection e229)
                                        replace p229 := eq_true p229
                                        replace q229 := eq_true q229
                                        have p230 : 0 ≤ (x10_3 : Int) := of_decide_eq_true (by first | (with_reducible assumption) | assumption)
                                        have q230 : x10_3 < (y225.length : Int) := of_decide_eq_true (by first | (with_reducible assumption) | assumption)
                                        obtain ⟨ad230, e230, hx230_0⟩ := Kd.at_int (Kd.R_reads' HO_9.out).2.2 x10_3 p230 q230
                                        obtain rfl : ad228 = ad230 := (by injection e230)
                                        replace p230 := eq_true p230
                                        replace q230 := eq_true q230
                                        have p41 : 0 ≤ ((rd y225 x10_3) : Int) := of_decide_eq_true (by first | (with_reducible assumption) | assumption)
                                        have q41 : ((rd y225 x10_3) : Int) < ((x8_3.length : Int) : Int) := of_decide_eq_true (by first | (with_reducible assumption) | assumption)
                                        obtain ⟨go41, co41, eo41, gb41, gl41, cl41, HG41⟩ := Kd.R_form HO_8.out (by omega)
                                        (first | cases eo41 | (injection eo41 with ea_ en_ ec_; (first | subst ea_ | (injection ea_ with ea_; subst ea_)); subst ec_; clear en_))
                                        have GB41 := Aside0.mk gb41
                                        have GG41 := Aside0.mk HG41
                                        clear gb41 gl41 HG41
                                        obtain ⟨hx41_0, hf41_0⟩ := Kd.R_celln false HO_8.out ((rd y225 x10_3) : Int) p41 q41
                                        replace p41 := eq_true p41
                                        replace q41 := eq_true q41
                                        have HP43 := Kd.R_putg HO_8.out ((rd y225 x10_3) : Int) true
                                        go_wp2_with (first | ((with_reducible refine gate_store (t := 4) (p := 80) rfl ?_); refine store_event (t := 4) (p := 80) (v := ?vo_w44) (w1 := (wr.setCell ⟨go41, ((rd y225 x10_3) : Int).toNat, none⟩ (.bool true))) ?hg ?ho ?hn ?hr ?_; (case ho => rfl); (case hg => rfl); (case hn => rfl); (case hr => first | (go_simp; done) | (go_simp; rfl)); intro w44 hw; have hg : wr.grownBy w44 (some go41) := (by rw [hw]; exact HP43.2); have hp_ : Kd.R Kd.bool 4 w44 w.heap.size (fun _ => True) (.slice (some ⟨go41, 0, none⟩) x8_3.length co41) y231 := (by rw [hw, Ny231.out]; exact HP43.1); clear HP43; have n0_ := Aside0.mk (hp_); have n1_ := Aside0.mk (Kd.R_over' (v := (.slice (some ⟨go41, 0, none⟩) x8_3.length co41)) (by (with_reducible repeat (first | apply Kd.R_alloc | apply Kd.R_drewN | apply Kd.R_drew)); exact HO_9.out) (Kd.R_typed HO_8.out) (by decide) hg); have n2_ := Aside0.mk ((by rw [hw]; exact below_set (HB.out) GB41.out : Below w.heap.size w w44)); clear HO_8; clear HO_9; clear HB; have HO_8 := n0_; have HO_9 := n1_; have HB := n2_; clear n0_ n1_ n2_; clear hg hw hp_))
                                        go_roundg k3
                                        case measure => have := HJ4.out; have := HJ11.out; have := HK3.out; omega
                                        case rel => exact ⟨(y231), (wrap64 (x10_3 + 1)), (by first | rfl | (simp; done) | (simp [*]; done)), H', ⟨by have := HJ4.out; have := HJ11.out; have := HK3.out; omega⟩, ⟨by (with_reducible repeat (first | apply Kd.R_alloc | apply Kd.R_drewN | apply Kd.R_drew)); exact HO_8.out⟩, ⟨by (with_reducible repeat (first | apply Kd.R_alloc | apply Kd.R_drewN | apply Kd.R_drew)); exact HO_9.out⟩, ⟨by repeat (first | (with_reducible first | exact HB.out | apply below_alloc | apply pw_below_drewN | apply below_drew1) | exact HB.out)⟩⟩
                                      · rw [if_neg c40] at H
                                        exact absurd H (by simp)
                                    · rw [if_neg c39] at H
                                      exact absurd H (by simp)
                              · rw [if_neg c34] at H
                                exact absurd H (by simp)
                            · rw [if_neg c33] at H
                              have c33b0 : decide (x10_3 < (y225.length : Int)) = false := decide_eq_false c33
                              clear c33
                              have H' := Aside0.mk H
                              clear H
                              obtain ⟨Ao45, co45, eo45⟩ := Kd.R_slice HO_9.out
                              subst eo45
                              go_wp2
                              go_loopg [11] k3 (fun kq v11 w' => ∃ (x11_4 : Int), v11 = .int .i64 x11_4 ∧ Aside0 (tattinglaw2_NamesDense.l1 kq t211 x8_3 x11_4 = some r) ∧ Aside0 (kq ≤ k3) ∧ Aside0 (Kd.R Kd.bool 4 w' w.heap.size (fun _ => True) v217 x8_3) ∧ Aside0 (Below w.heap.size w w'))
                              case atStart => exact ⟨(0), (by first | rfl | (simp; done) | (simp [*]; done)), H', ⟨Nat.le_refl _⟩, ⟨by (with_reducible repeat (first | apply Kd.R_alloc | apply Kd.R_drewN | apply Kd.R_drew)); exact HO_8.out⟩, ⟨by repeat (first | (with_reducible first | exact HB.out | apply below_alloc | apply pw_below_drewN | apply below_drew1) | exact HB.out)⟩⟩
                              case round =>
                                clear H'
                                try clear c1
                                try clear c2
                                try clear p2
                                try clear q2
                                try clear hx2
                                try clear c3
                                try clear c4
                                try clear p4
                                try clear q4
                                try clear hx4
                                try clear hf4
                                try clear p6
                                try clear c8
                                try clear c10
                                try clear c12
                                try clear c13
                                try clear c14
                                try clear c14b0
                                try clear c15
                                try clear c15b0
                                try clear c16
                                try clear c16b0
                                try clear c16b1
                                try clear c16b2
                                try clear c20
                                try clear c21
                                try clear c21b0
                                try clear c21b1
                                try clear c22
                                try clear c22b0
                                try clear c22b1
                                try clear p22
                                try clear q22
                                try clear hx22
                                try clear c23
                                try clear p23
                                try clear q23
                                try clear hx23
                                try clear c24
                                try clear c33
                                try clear c33b0
                                try clear c34
                                try clear c34b0
                                try clear c35
                                try clear c35b0
                                try clear c37
                                try clear c37b0
                                try clear c39
                                try clear c39b0
                                try clear c40
                                try clear c40b0
                                try clear p41
                                try clear q41
                                try clear hx41
                                try clear hf41
                                try clear hx228_0
                                try clear hx229_0
                                try clear hx230_0
                                try clear hx41_0
                                try clear p2
                                try clear p228
                                try clear p229
                                try clear p230
                                try clear p41
                                try clear q228
                                try clear q229
                                try clear q230
                                try clear q41
                                obtain ⟨x11_4, rfl, HA, HK4, HO_8, HB⟩ := hrel
                                cases gk with
                                | zero => exact absurd HA.out (by simp [tattinglaw2_NamesDense.l1])
                                | succ k4 =>
                                  have H := HA.out
                                  clear HA
                                  simp only [tattinglaw2_NamesDense.l1] at H
                                  by_cases c46 : x11_4 < t211
                                  · rw [if_pos c46] at H
                                    have c46b0 : decide (x11_4 < t211) = true := decide_eq_true c46
                                    clear c46
                                    by_cases c47 : 0 ≤ x11_4
                                    · rw [if_pos c47] at H
                                      have c47b0 : decide (0 ≤ x11_4) = true := decide_eq_true c47
                                      clear c47
                                      by_cases c48 : x11_4 < (x8_3.length : Int)
                                      · rw [if_pos c48] at H
                                        have c48b0 : decide (x11_4 < (x8_3.length : Int)) = true := decide_eq_true c48
                                        clear c48
                                        obtain ⟨bq49, hbq49⟩ : ∃ b_ : Bool, b_ = (rdOf false x8_3 x11_4) := ⟨_, rfl⟩
                                        replace H : (if bq49 = true then (tattinglaw2_NamesDense.l1 k4 t211 x8_3 (wrap64 (x11_4 + 1))) else (some false)) = some r := by rw [← hbq49] at H; exact H
                                        have Nbq49 := Aside0.mk hbq49
                                        clear hbq49
                                        by_cases c50 : bq49 = true
                                        · subst c50
                                          have H1 : (tattinglaw2_NamesDense.l1 k4 t211 x8_3 (wrap64 (x11_4 + 1))) = some r := by rw [if_pos rfl] at H; exact H
                                          clear H
                                          have H := H1
                                          clear H1
                                          have H' := Aside0.mk H
                                          clear H
                                          obtain ⟨Ao51, co51, eo51⟩ := Kd.R_slice HO_8.out
                                          subst eo51
                                          have p232 : 0 ≤ (x11_4 : Int) := of_decide_eq_true (by first | (with_reducible assumption) | assumption)
                                          have q232 : x11_4 < (x8_3.length : Int) := of_decide_eq_true (by first | (with_reducible assumption) | assumption)
                                          obtain ⟨ad232, e232, hx232_0⟩ := Kd.at_bool (Kd.R_reads' HO_8.out).2.2 x11_4 p232 q232
                                          (try rw [← Nbq49.out] at hx232_0)
                                          cases e232
                                          replace p232 := eq_true p232
                                          replace q232 := eq_true q232
                                          go_wp2
                                          go_roundg k4
                                          case measure => have := HJ4.out; have := HJ11.out; have := HK3.out; have := HK4.out; omega
                                          case rel => exact ⟨(wrap64 (x11_4 + 1)), (by first | rfl | (simp; done) | (simp [*]; done)), H', ⟨by have := HJ4.out; have := HJ11.out; have := HK3.out; have := HK4.out; omega⟩, ⟨by (with_reducible repeat (first | apply Kd.R_alloc | apply Kd.R_drewN | apply Kd.R_drew)); exact HO_8.out⟩, ⟨by repeat (first | (with_reducible first | exact HB.out | apply below_alloc | apply pw_below_drewN | apply below_drew1) | exact HB.out)⟩⟩
                                        · replace c50 := Bool.eq_false_iff.mpr c50
                                          subst c50
                                          have H1 : (some false) = some r := by rw [if_neg (show ¬ (false = true) by decide)] at H; exact H
                                          clear H
                                          have H := H1
                                          clear H1
                                          obtain rfl := Option.some.inj H
                                          obtain ⟨Ao52, co52, eo52⟩ := Kd.R_slice HO_8.out
                                          subst eo52
                                          have p232 : 0 ≤ (x11_4 : Int) := of_decide_eq_true (by first | (with_reducible assumption) | assumption)
                                          have q232 : x11_4 < (x8_3.length : Int) := of_decide_eq_true (by first | (with_reducible assumption) | assumption)
                                          obtain ⟨ad232, e232, hx232_0⟩ := Kd.at_bool (Kd.R_reads' HO_8.out).2.2 x11_4 p232 q232
                                          (try rw [← Nbq49.out] at hx232_0)
                                          cases e232
                                          replace p232 := eq_true p232
                                          replace q232 := eq_true q232
                                          go_wp2
                                          go_ret
                                          exact ⟨by first | rfl | (simp [errW_none, errW_some] <;> rfl) | (simp [*, errW_none, errW_some] <;> rfl), by repeat (first | (with_reducible first | exact HB.out | apply below_alloc | apply pw_below_drewN | apply below_drew1) | exact HB.out)⟩
                                      · rw [if_neg c48] at H
                                        exact absurd H (by simp)
                                    · rw [if_neg c47] at H
                                      exact absurd H (by simp)
                                  · rw [if_neg c46] at H
                                    have c46b0 : decide (x11_4 < t211) = false := decide_eq_false c46
                                    clear c46
                                    obtain rfl := Option.some.inj H
                                    go_wp2
                                    go_ret
                                    exact ⟨by first | rfl | (simp [errW_none, errW_some] <;> rfl) | (simp [*, errW_none, errW_some] <;> rfl), by repeat (first | (with_reducible first | exact HB.out | apply below_alloc | apply pw_below_drewN | apply below_drew1) | exact HB.out)⟩
                      · rw [if_neg c24] at H
                        exact absurd H (by simp)
                    · rw [if_neg c23] at H
                      exact absurd H (by simp)
                  · rw [if_neg c22] at H
                    exact absurd H (by simp)
                · rw [if_neg c21] at H
                  exact absurd H (by simp)
  · replace c4 := Bool.eq_false_iff.mpr c4
    subst c4
    have H1 : (some false) = some r := by rw [if_neg (show ¬ (false = true) by decide)] at H; exact H
    clear H
    have H := H1
    clear H1
    obtain rfl := Option.some.inj H
    go_enter Try.func8, Try.ntmps8
    go_wp2_with (first | ((with_reducible refine gate_callee (f := 13) rfl ?_); refine goesL_ (some 12) rfl rfl Try.func13 (by kernel_rfl) rfl #[] rfl (by (try simp only [List.map_toArray, List.map_cons, List.map_nil]); first | done | rfl | (simp only [List.length_drop, List.length_take]; rfl)) ?_; (with_reducible refine (tattinglaw2_awake.calls  false _ A3.out).mono ?_); rintro e w53 ⟨rfl, hb⟩; refine ⟨_, rfl, ?_⟩; have n0_ := Aside0.mk (below_step (by repeat (first | (with_reducible first | exact HB.out | apply below_alloc | apply pw_below_drewN | apply below_drew1) | exact HB.out)) hb); clear HB; have HB := n0_; clear n0_; (try clear hb); (try clear hb2); (try clear hk); (try clear hi)))
    go_ret
    exact ⟨by first | rfl | (simp [errW_none, errW_some] <;> rfl) | (simp [*, errW_none, errW_some] <;> rfl), by repeat (first | (with_reducible first | exact HB.out | apply below_alloc | apply pw_below_drewN | apply below_drew1) | exact HB.out)⟩

end Go.Proofs.Ytnaicfffplnebaa.PN
