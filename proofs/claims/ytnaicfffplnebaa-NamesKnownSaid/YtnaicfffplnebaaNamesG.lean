/- slices.Grow of nil, slices.Concat of two rows of tokens, names.Two. -/
import Derived.Test.YtnaicfffplnebaaNamesF
import Derived.Test.YtnaicfffplnebaaPIdsx1
import Derived.Lib.AppendZeros
namespace Go.Proofs.Ytnaicfffplnebaa.Man
open Go.RowKit Go.Sort Go.Lib Go.Proofs.YtnaicfffplnebaaW.PrintWords Go.Proofs.YtnaicfffplnebaaW.PrintLast Go.Proofs.YtnaicfffplnebaaW.PrintMore

theorem grow_nil (n : Nat) (w : World) (hn : n * 24 ≤ 140737488355328) :
    Calls Try.prog 34 #[.slice none 0 0, .int .i64 n] w fun e w' => ∃ v, e = .returned v ∧ w'.ownsRow w.heap.size 24 1 v 0 [] ∧ RowKit.Below w.heap.size w w' := by
  have hn' : n ≤ 9223372036854775807 := by omega
  rcases Nat.eq_zero_or_pos n with rfl | h0
  · go_enter Try.func34, Try.ntmps34
    go_wp2
    go_ret
    exact ⟨_, rfl, own_nil _ _ _ _, RowKit.Below.refl _ _⟩
  · obtain ⟨i0, hi, hz0, hz1, hz2⟩ := info_parts info24
    have hrun := fun W : World => Lib.run_append_nil_zeros (P := Try.prog) W 22 3 22 24 i0 (.slice none 0 0) .i64 .i64 Try.underlying22 Try.underlying3 hi hz0 n h0 (by rw [hz1]; decide) (by omega) (by rw [hz2]; omega)
    have HR := Lib.hid hrun
    clear hrun
    go_enter Try.func34, Try.ntmps34
    go_wp2_with (at_builtin; refine Lib.wpList_append_run _ rfl _ _ 22 3 rfl _ _ rfl rfl _ _ (HR.out _) ?_)
    go_ret
    exact ⟨_, rfl, World.ownsRow_made w.drew _ _ (Nat.le_refl _) (grownCap_le_maxLen w n 0 _ (by simpa [maxLen] using hn')) (by simp [Builtin.zeroCells]; have := grownCap_ge w n 0 24; omega), (RowKit.Below.refl _ _).drew.alloc (Nat.le_refl _) _⟩

/-- A row of tokens that came in, as values. -/
theorem toks_reads {w : World} {A : Option Addr} {l : List (List Int)} (h : Kd.C (Kd.slice 5 (Kd.int .u8)) w A l.length l) :
    ∃ d : List (TokV w), d.map TokV.x = l ∧ ReadsOf TokV.v default w A d.length d := by
  obtain ⟨d, hdx, hdv⟩ := toks_of_C h
  have hdl : d.length = l.length := by rw [← hdx]; simp
  refine ⟨d, hdx, rfl, by rw [hdl]; exact h.2.1, fun hn => ?_⟩
  obtain ⟨ad, had, _⟩ := h.2.2 (by omega)
  refine ⟨ad, had, fun j hj => hdv ad had j _ ?_⟩
  rw [List.getElem?_map, List.getElem?_eq_getElem hj, List.getD_eq_getElem?_getD, List.getElem?_eq_getElem hj]
  rfl

set_option maxHeartbeats 4000000 in
set_option maxRecDepth 100000 in
/-- slices.Concat of two. -/
theorem concat2 {w0 : World} (g : Nat) (A0 A1 : Option Addr) (c0 c1 : Nat) (d0 d1 : List (TokV w0)) (w : World) (hg0 : w.cell? ⟨g, 0, none⟩ = some (.slice A0 d0.length c0)) (hg1 : w.cell? ⟨g, 1, none⟩ = some (.slice A1 d1.length c1))
    (hR0 : ReadsOf TokV.v default w A0 d0.length d0) (hR1 : ReadsOf TokV.v default w A1 d1.length d1) (hbig : (d0.length + d1.length) * 24 ≤ 140737488355328) :
    Calls Try.prog 30 #[.slice (some ⟨g, 0, none⟩) 2 2] w fun e w' => ∃ v, e = .returned v ∧ w'.ownsRow w.heap.size 24 1 v (d0 ++ d1).length ((d0 ++ d1).map TokV.v) ∧ RowKit.Below w.heap.size w w' := by
  generalize hl0 : d0.length = n0 at *
  generalize hl1 : d1.length = n1 at *
  have HL0 := Lib.hid hl0
  have HL1 := Lib.hid hl1
  have HR0 := Lib.hid hR0
  have HR1 := Lib.hid hR1
  have HG0 := Lib.hid hg0
  have HG1 := Lib.hid hg1
  have HBIG := Lib.hid hbig
  have hb0 : n0 ≤ 9223372036854775807 := by omega
  have hb1 : n1 ≤ 9223372036854775807 := by omega
  have hb2 : n0 + n1 ≤ 9223372036854775807 := by omega
  have hgs : g < w.heap.size := World.block_lt_of_cell? w _ hg0
  clear hl0 hl1 hR0 hR1 hbig
  go_enter Try.func30, Try.ntmps30
  go_wp2
  go_loopg [3, 11] 2 (fun kx s3 s11 wr => wr = w ∧ ∃ i : Nat, s11 = .int .i64 i ∧ i ≤ 2 ∧ 2 - i ≤ kx ∧ ∃ m : Nat, s3 = .int .i64 m ∧ m = if i = 0 then 0 else if i = 1 then n0 else n0 + n1)
  case atStart => exact ⟨rfl, 0, rfl, by omega, by omega, 0, rfl, rfl⟩
  case round =>
    obtain ⟨hwr, i, rfl, hi2, hk, m, rfl, hm⟩ := hrel
    obtain rfl : w = wr := hwr.symm
    have hi3 : i = 0 ∨ i = 1 ∨ i = 2 := by omega
    rcases hi3 with rfl | rfl | rfl
    · replace hm : m = 0 := hm
      subst hm
      go_wp2
      go_roundg 1
      case measure => omega
      case rel => exact ⟨rfl, 1, rfl, by omega, by omega, n0, by simp, rfl⟩
    · replace hm : m = n0 := hm
      subst hm
      go_wp2
      go_roundg 0
      case measure => omega
      case rel => exact ⟨rfl, 2, rfl, by omega, by omega, m + n1, by simp, rfl⟩
    · replace hm : m = n0 + n1 := hm
      have HM := Lib.hid hm
      clear hm
      have hmb : m ≤ 9223372036854775807 := by rw [HM.out]; exact hb2
      clear hg0 hg1
      go_wp2_with (go_at_call 34; refine (grow_nil m w (by rw [HM.out]; exact HBIG.out)).mono ?_; rintro e w1 ⟨v1, rfl, own1, b1⟩; have OWN1 := Lib.hid own1; have B1 := Lib.hid b1; clear own1 b1)
      go_loopg [6, 27] 2 (fun kx s6 s27 w2 => ∃ i : Nat, s27 = .int .i64 i ∧ i ≤ 2 ∧ 2 - i ≤ kx ∧ ∃ dd : List (TokV w0), Hid (RowKit.Below w.heap.size w w2 ∧ w2.ownsRow w.heap.size 24 1 s6 dd.length (encs TokV.v dd) ∧ dd = if i = 0 then [] else if i = 1 then d0 else d0 ++ d1))
      case atStart => exact ⟨0, rfl, by omega, by omega, [], (⟨B1.out, OWN1.out, rfl⟩ : RowKit.Below w.heap.size w w1 ∧ w1.ownsRow w.heap.size 24 1 v1 0 [] ∧ ([] : List (TokV w0)) = [])⟩
      case round =>
        clear OWN1 B1
        obtain ⟨i, rfl, hi2, hk, dd, HS⟩ := hrel
        have hi3 : i = 0 ∨ i = 1 ∨ i = 2 := by omega
        have hcg : ∀ j, wr.cell? ⟨g, j, none⟩ = w.cell? ⟨g, j, none⟩ := fun j => HS.out.1.cell (p := ⟨g, j, none⟩) hgs
        rcases hi3 with rfl | rfl | rfl
        · have hc0 := (hcg 0).trans HG0.out
          clear hcg
          go_wp2_with (at_builtin; refine print_append_row_of (w0 := w) TokV.v default w.heap.size rfl _ _ 22 24 (.slice none 0 0) 24 rfl Try.underlying22 info24 rfl (by decide) TokV.one _ dd d0 A0 n0 c0 rfl rfl HS.out.2.1 ?qa HS.out.1 HS.out.1.size ?qb ?_)
          case qa => have := HR0.out.below (w1 := wr) HS.out.1; exact this
          case qb => rw [HS.out.2.2]; have := HBIG.out; simp; omega
          intro v1 w3 ho hb hg hat
          have HO := Lib.hid ho; have HB := Lib.hid hb
          clear ho hb hg hat
          go_wp2
          go_roundg 1
          case measure => omega
          case rel => exact ⟨1, rfl, by omega, by omega, dd ++ d0, (⟨HB.out, by rw [List.length_append]; exact HO.out, by rw [HS.out.2.2]; rfl⟩ : RowKit.Below w.heap.size w w3 ∧ w3.ownsRow w.heap.size 24 1 v1 (dd ++ d0).length (encs TokV.v (dd ++ d0)) ∧ dd ++ d0 = d0)⟩
        · have hc0 := (hcg 1).trans HG1.out
          clear hcg
          go_wp2_with (at_builtin; refine print_append_row_of (w0 := w) TokV.v default w.heap.size rfl _ _ 22 24 (.slice none 0 0) 24 rfl Try.underlying22 info24 rfl (by decide) TokV.one _ dd d1 A1 n1 c1 rfl rfl HS.out.2.1 ?qa HS.out.1 HS.out.1.size ?qb ?_)
          case qa => have := HR1.out.below (w1 := wr) HS.out.1; exact this
          case qb => have h9 := HS.out.2.2; have : dd = d0 := h9; rw [this]; have := HBIG.out; have := HL0.out; omega
          intro v1 w3 ho hb hg hat
          have HO := Lib.hid ho; have HB := Lib.hid hb
          clear ho hb hg hat
          go_wp2
          go_roundg 0
          case measure => omega
          case rel => exact ⟨2, rfl, by omega, by omega, dd ++ d1, (⟨HB.out, by rw [List.length_append]; exact HO.out, by have h9 := HS.out.2.2; have : dd = d0 := h9; rw [this]⟩ : RowKit.Below w.heap.size w w3 ∧ w3.ownsRow w.heap.size 24 1 v1 (dd ++ d1).length (encs TokV.v (dd ++ d1)) ∧ dd ++ d1 = d0 ++ d1)⟩
        · clear hcg
          go_wp2
          go_ret
          have h9 : dd = d0 ++ d1 := HS.out.2.2
          have h8 := HS.out.2.1
          rw [h9] at h8
          exact ⟨_, rfl, h8, HS.out.1⟩

/-- A row of the call's own whose cells are tokens' values is read as the tokens. -/
theorem C_of_toks {w W : World} {base n : Nat} {v : Value} {d : List (TokV w)} (ho : W.ownsRow base 24 1 v n (d.map TokV.v)) (hW : ∀ k, k < w.heap.size → W.heap[k]? = w.heap[k]?) (hn : n = d.length) :
    ∃ A c, v = .slice A (d.map TokV.x).length c ∧ (d.map TokV.x).length ≤ c ∧ Kd.C (Kd.slice 5 (Kd.int .u8)) W A (d.map TokV.x).length (d.map TokV.x) := by
  subst hn
  obtain ⟨A, c, rfl, hA, hA0, hc⟩ := own_form ho
  have hl : (d.map TokV.x).length = d.length := List.length_map ..
  have hm : d.length ≤ 9223372036854775807 := by
    rcases ho.2 with ⟨_, h1⟩ | ⟨g', cap', cur, he, _, _, h1, h2, _⟩
    · omega
    · simp only [maxLen] at h2; omega
  refine ⟨A, c, by rw [hl], by rw [hl]; exact hc, rfl, by rw [hl]; exact hm, fun hp => ?_⟩
  rw [hl] at hp
  cases A with
  | none => have := hA0 rfl; omega
  | some ad =>
    refine ⟨ad, rfl, fun j x hj => ?_⟩
    rw [List.getElem?_map] at hj
    obtain ⟨p, hp, rfl⟩ := Option.map_eq_some_iff.1 hj
    refine ⟨[p.v], rfl, ?_, fun i u hu => ?_⟩
    · obtain ⟨A1, c1, e, hl1, hC1⟩ := p.tok W hW
      exact ⟨A1, c1, by rw [e], hl1, hC1⟩
    · have hi0 : i = 0 := by
        have := (List.getElem?_eq_some_iff.1 hu).1
        simpa using this
      subst hi0
      have hu' : p.v = u := by simpa using hu
      subst hu'
      have := (hA ad rfl).2.2 j p.v (by rw [List.getElem?_map, hp]; rfl)
      rw [show j * (Kd.slice 5 (Kd.int .u8)).sz + 0 = j from Nat.mul_one j]
      exact this

/-- names.Two as a Lean function. -/
def names_Two.f (k : Nat) (a b : List (List Int)) : Option (List Int × List Int × Int) :=
  if (a.length + b.length) * 24 ≤ 140737488355328 then
    (names_Sort.f (a ++ b)).bind fun d => (PIds.names_Ids.f k d a).bind fun p => (PIds.names_Ids.f k d b).bind fun q => some (p.1, q.1, (d.length : Int))
  else none
theorem names_Two.mono : ∀ a b k, LeO (names_Two.f k a b) (names_Two.f (k + 1) a b) := by
  intro a b k
  unfold names_Two.f
  refine LeO.ite (LeO.bind (LeO.refl _) fun d => LeO.bind (PIds.names_Ids.mono _ _ _) fun p => LeO.bind (PIds.names_Ids.mono _ _ _) fun q => LeO.refl _) (LeO.refl _)

set_option maxHeartbeats 4000000 in
set_option maxRecDepth 100000 in
theorem names_Two.calls (k : Nat) (A0 : Option Addr) (c0 : Nat) (l0 : List (List Int)) (A1 : Option Addr) (c1 : Nat) (l1 : List (List Int)) (r1 : List Int) (r2 : List Int) (r3 : Int) (w : World) (hr0 : Kd.C (Kd.slice 5 (Kd.int .u8)) w A0 l0.length l0) (hc0 : l0.length ≤ c0) (hr1 : Kd.C (Kd.slice 5 (Kd.int .u8)) w A1 l1.length l1) (hc1 : l1.length ≤ c1) (h : names_Two.f k l0 l1 = some (r1, r2, r3)) :
    Calls Try.prog 12 #[.slice A0 l0.length c0, .slice A1 l1.length c1] w fun e w' => ∃ v0_ v1_ : Value, e = .returned (.tuple #[v0_, v1_, .int .i64 r3]) ∧ Kd.R (Kd.int .i64) 3 w' w.heap.size (fun k_ => some k_ ≠ (v1_ : Value).ownBlock) v0_ r1 ∧ Kd.R (Kd.int .i64) 3 w' w.heap.size (fun k_ => some k_ ≠ (v0_ : Value).ownBlock) v1_ r2 ∧ RowKit.Below w.heap.size w w' := by
  unfold names_Two.f at h
  split at h
  case isFalse => cases h
  rename_i hbig
  obtain ⟨d, hd, h⟩ := Option.bind_eq_some_iff.1 h
  obtain ⟨⟨p1, p2⟩, hp, h⟩ := Option.bind_eq_some_iff.1 h
  obtain ⟨⟨q1, q2⟩, hq, h⟩ := Option.bind_eq_some_iff.1 h
  injection h with h
  injection h with h1 h
  injection h with h2 h3
  simp only at h1 h2 h3
  subst h1 h2 h3
  obtain ⟨d0, hx0, hR0⟩ := toks_reads hr0
  obtain ⟨d1, hx1, hR1⟩ := toks_reads hr1
  have hl0 : l0.length = d0.length := by rw [← hx0]; simp
  have hl1 : l1.length = d1.length := by rw [← hx1]; simp
  have hxx : (d0 ++ d1).map TokV.x = l0 ++ l1 := by rw [List.map_append, hx0, hx1]
  have hI0 : ∀ (W : World) (A : Option Addr) (c : Nat), RowKit.Below w.heap.size w W → Kd.C (Kd.slice 5 (Kd.int .u8)) W A d.length d → d.length ≤ c → Calls Try.prog 11 #[.slice A d.length c, .slice A0 d0.length c0] W fun e w' => ∃ v0_ : Value, e = .returned (.tuple #[v0_, .bool p2]) ∧ Kd.R (Kd.int .i64) 3 w' W.heap.size (fun _ => True) v0_ p1 ∧ RowKit.Below W.heap.size W w' := fun W A c hb hC hc => by
    rw [← hl0]; exact PIds.names_Ids.calls k A c d A0 c0 l0 p1 p2 W hC hc (Kd.C_below hr0 hb) hc0 hp
  have hI1 : ∀ (W : World) (A : Option Addr) (c : Nat), RowKit.Below w.heap.size w W → Kd.C (Kd.slice 5 (Kd.int .u8)) W A d.length d → d.length ≤ c → Calls Try.prog 11 #[.slice A d.length c, .slice A1 d1.length c1] W fun e w' => ∃ v0_ : Value, e = .returned (.tuple #[v0_, .bool q2]) ∧ Kd.R (Kd.int .i64) 3 w' W.heap.size (fun _ => True) v0_ q1 ∧ RowKit.Below W.heap.size W w' := fun W A c hb hC hc => by
    rw [← hl1]; exact PIds.names_Ids.calls k A c d A1 c1 l1 q1 q2 W hC hc (Kd.C_below hr1 hb) hc1 hq
  have hS : ∀ (W : World) (v : Value), RowKit.Below w.heap.size w W → W.ownsRow (w.heap.size + 1) 24 1 v (d0 ++ d1).length ((d0 ++ d1).map TokV.v) → Calls Try.prog 9 #[v] W fun e w' => ∃ v0_ : Value, e = .returned (v0_) ∧ Kd.S (Kd.slice 5 (Kd.int .u8)) 24 w' W.heap.size (fun _ => True) v0_ d ∧ RowKit.Below W.heap.size W w' := fun W v hb ho => by
    obtain ⟨A, c, rfl, hc, hC⟩ := C_of_toks ho (fun k hk => hb.block k hk) rfl
    rw [hxx] at hC hc ⊢
    exact names_Sort.calls A c (l0 ++ l1) d W hC hc hd
  have hl0' : (d0.length + d1.length) * 24 ≤ 140737488355328 := by omega
  rw [hl0, hl1]
  clear hl0 hl1 hc0 hc1 hd hp hq hbig hx0 hx1 hxx hr0 hr1
  have HR0 := Lib.hid hR0
  have HR1 := Lib.hid hR1
  have HI0 := Lib.hid hI0
  have HI1 := Lib.hid hI1
  have HS := Lib.hid hS
  have HBIG := Lib.hid hl0'
  clear hR0 hR1 hI0 hI1 hS hl0'
  have b0 : ∀ o : Obj, RowKit.Below w.heap.size w (w.alloc o) := fun o => (RowKit.Below.refl _ w).alloc (Nat.le_refl _) o
  have B0 := Lib.hid b0
  clear b0
  go_enter Try.func12, Try.ntmps12
  go_wp2_with (first
    | (go_at_call 30; refine (concat2 (w0 := w) w.heap.size A0 A1 c0 c1 d0 d1 _ (by simp) (by simp) (HR0.out.below (B0.out _)) (HR1.out.below (B0.out _)) HBIG.out).mono ?_
       rintro e w1 ⟨v1, rfl, own1, b1⟩
       have B1 : Hid (RowKit.Below w.heap.size w w1) := (B0.out _).trans (b1.mono (B0.out _).size)
       have OWN1 := Lib.hid own1; clear own1 b1)
    | (go_at_call 9; refine (HS.out w1 v1 B1.out (by have := OWN1.out; simp only [World.size_alloc] at this; exact this)).mono ?_
       rintro e w2 ⟨v2, rfl, s2, b2⟩
       have B2 : Hid (RowKit.Below w.heap.size w w2) := B1.out.trans (b2.mono B1.out.size)
       obtain ⟨A2, c2, rfl, hc2, hC2⟩ := Kd.S_reads s2
       have S2 := Lib.hid s2; have HC2 := Lib.hid hC2; have HCC2 := Lib.hid hc2; clear s2 b2 hC2 hc2)
    | (go_at_call 11; refine (HI0.out w2 A2 c2 B2.out HC2.out HCC2.out).mono ?_
       rintro e w3 ⟨v3, rfl, r3, b3⟩
       have B3 : Hid (RowKit.Below w.heap.size w w3) := B2.out.trans (b3.mono B2.out.size)
       have HC3 := Lib.hid (Kd.C_below HC2.out b3); have R3 := Lib.hid r3; have BB3 := Lib.hid b3; clear r3 b3 HI0)
    | (go_at_call 11; refine (HI1.out w3 A2 c2 B3.out HC3.out HCC2.out).mono ?_
       rintro e w4 ⟨v4, rfl, r4, b4⟩
       have B4 : Hid (RowKit.Below w.heap.size w w4) := B3.out.trans (b4.mono B3.out.size)
       have R4 := Lib.hid r4; have BB4 := Lib.hid b4; clear r4 b4 HI1))
  go_ret3
  refine ⟨_, _, rfl, ?_, ?_, B4.out⟩
  · exact Kd.R_mono (Kd.R_lower (Kd.R_below (Kd.R_bound R3.out) BB4.out) B2.out.size) (fun k hk e => by
      have h1 := Kd.R_base R4.out k e.symm
      have h2 := hk.2.2.1
      omega)
  · exact Kd.R_mono (Kd.R_lower (Kd.R_bound R4.out) B3.out.size) (fun k hk e => by
      have h1 := Kd.R_lt R3.out k e.symm
      have h2 := hk.2.1
      omega)
end Go.Proofs.Ytnaicfffplnebaa.Man
