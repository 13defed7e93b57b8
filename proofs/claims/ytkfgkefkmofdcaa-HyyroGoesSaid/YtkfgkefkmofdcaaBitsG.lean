/- hyyro.Rows, hyyro.Len, croch.Rows, croch.Len, in the form of the printed contracts. -/
import Derived.Test.YtkfgkefkmofdcaaBitsF
import Derived.Deep.AppendLies
namespace Go.Proofs.Ytkfgkefkmofdcaa.Man
open Go.RowKit Go.Sort Go.Proofs.YtkfgkefkmofdcaaW.PrintWords Go.Proofs.YtkfgkefkmofdcaaW.PrintLast Go.Proofs.YtkfgkefkmofdcaaW.PrintMore

theorem info31 : (Try.prog.info? 31).map (fun i => (i.zero, i.size, i.bytes)) = some (some (.slice none 0 0), 1, 24) := by kernel_rfl
/-- Row by row. -/
def rowsGo (row : List Int → List Int → Int → Option (List Int)) (k : Nat) (b : List Int) : List Int → List (List Int) → Option (List (List Int))
  | [], acc => some acc
  | x :: xs, acc => (PV.vec_Fit.f k (mwords b x) b.length).bind fun u => (row (acc.getD (acc.length - 1) []) u b.length).bind fun r => rowsGo row k b xs (acc ++ [r])
def lenGo (row : List Int → List Int → Int → Option (List Int)) (k : Nat) (b : List Int) : List Int → List Int → Option (List Int)
  | [], r => some r
  | x :: xs, r => (PV.vec_Fit.f k (mwords b x) b.length).bind fun u => (row r u b.length).bind fun r' => lenGo row k b xs r'
theorem rowsGo_mono {row row' : List Int → List Int → Int → Option (List Int)} (h : ∀ x y z, LeO (row x y z) (row' x y z)) (k : Nat) (b : List Int) : ∀ a acc, LeO (rowsGo row k b a acc) (rowsGo row' (k + 1) b a acc)
  | [], acc => LeO.refl _
  | x :: xs, acc => by
    unfold rowsGo
    refine LeO.bind (PV.vec_Fit.mono _ _ _) fun u => LeO.bind (h _ _ _) fun r => rowsGo_mono h k b xs _
theorem lenGo_mono {row row' : List Int → List Int → Int → Option (List Int)} (h : ∀ x y z, LeO (row x y z) (row' x y z)) (k : Nat) (b : List Int) : ∀ a acc, LeO (lenGo row k b a acc) (lenGo row' (k + 1) b a acc)
  | [], acc => LeO.refl _
  | x :: xs, acc => by
    unfold lenGo
    refine LeO.bind (PV.vec_Fit.mono _ _ _) fun u => LeO.bind (h _ _ _) fun r => lenGo_mono h k b xs _
/-- What Rows and Len ask of their lists. -/
def wfl (l : List Int) : Bool := l.all fun x => (Lit.int .i64 x).wf
def rgood (a b : List Int) : Bool := decide (b.length ≤ 1048576) && (wfl a && (wfl b && decide ((a.length + 1) * 24 ≤ 140737488355328)))
theorem rgood_at {a b : List Int} (h : rgood a b = true) : b.length ≤ 1048576 ∧ (∀ x ∈ a, (Lit.int .i64 x).wf = true) ∧ (∀ x ∈ b, (Lit.int .i64 x).wf = true) ∧ (a.length + 1) * 24 ≤ 140737488355328 := by
  unfold rgood wfl at h
  simp only [Bool.and_eq_true, decide_eq_true_eq, List.all_eq_true] at h
  exact ⟨h.1, h.2.1, h.2.2.1, h.2.2.2⟩
/-- What New leaves, later on. -/
structure MK (w : World) (p : Nat) (b : List Int) (wr : World) : Prop where
  out : ∃ mb N v, PB w p b.length v mb wr ∧ MS w mb (wds b.length) N (fun x => x ∈ b) (fun x => mrow b x b.length) wr
theorem MK.below {w wr : World} {p : Nat} {b : List Int} (h : MK w p b wr) : Below w.heap.size w wr := by
  obtain ⟨mb, N, v, h1, h2⟩ := h.out
  exact h2.below
theorem MK.moved {w wr w1 : World} {p : Nat} {b : List Int} (h : MK w p b wr) (hb : Below wr.heap.size wr w1) : MK w p b w1 := by
  obtain ⟨mb, N, v, h1, h2⟩ := h.out
  exact ⟨mb, N, v, h1.moved hb, h2.moved hb⟩
theorem MK.grown {w wr w1 : World} {p g : Nat} {b : List Int} {cs : Array Value} (h : MK w p b wr) (hg : wr.grownBy w1 (some g)) (hlo : w.heap.size ≤ g) (hc : wr.heap[g]? = some (.cells cs 31)) : MK w p b w1 := by
  obtain ⟨mb, N, v, h1, h2⟩ := h.out
  refine ⟨mb, N, v, h1.grown hg (fun e => ?_), h2.grown hg hlo (fun o ho => ?_)⟩
  · injection e with e
    subst e
    have := h1.blk
    rw [hc] at this
    injection this with this
    injection this with _ this
    exact absurd this (by decide)
  · rw [hc] at ho
    injection ho with ho
    subst ho
    exact ⟨fun _ _ e => (by cases e), fun cs e => by injection e with _ e; exact absurd e (by decide)⟩
theorem new_mk (A0 : Option Addr) (c0 : Nat) (l : List Int) (w : World) (hr0 : Kd.C (Kd.int .i64) w A0 l.length l) (hbig : l.length ≤ 1048576) (hwf : ∀ x ∈ l, (Lit.int .i64 x).wf = true) :
    Calls Try.prog 24 #[.slice A0 l.length c0] w fun e w' => ∃ p, e = .returned (.pointer (some ⟨p, 0, none⟩)) ∧ MK w p l w' := by
  refine (new_walk A0 c0 l w hr0 hbig hwf).mono ?_
  rintro e w' ⟨p, mb, N, v, rfl, h1, h2⟩
  exact ⟨p, rfl, mb, N, v, h1, h2⟩
theorem of_mk (k p : Nat) (b : List Int) (x : Int) (r : List Int) (w w1 : World) (h : MK w p b w1) (hx : (Lit.int .i64 x).wf = true) (hb : b.length ≤ 1048576) (hf : PV.vec_Fit.f k (mwords b x) b.length = some r) :
    Calls Try.prog 26 #[.pointer (some ⟨p, 0, none⟩), .int .i64 x] w1 fun e w' => ∃ v0 : Value, e = .returned v0 ∧ Kd.R (Kd.int .u64) 36 w' w1.heap.size (fun _ => True) v0 r ∧ Below w1.heap.size w1 w' := by
  obtain ⟨mb, N, v, h1, h2⟩ := h.out
  exact of_walk k p mb N v b x r w w1 h1 h2 hx hb hf

theorem S_single {W : World} {base base' : Nat} {v : Value} {o : List Int} (h : Kd.R (Kd.int .u64) 36 W base' (fun _ => True) v o) (hb : base ≤ base') (hs : base ≤ W.heap.size) :
    Kd.S (Kd.slice 36 (Kd.int .u64)) 31 (W.alloc (.cells #[v] 31)) base (fun _ => True) (.slice (some ⟨W.heap.size, 0, none⟩) 1 1) [o] := by
  refine ⟨fun _ => 0, fun _ _ => trivial, [v], World.ownsRow_lit (base := base) (e := 31) (size := 1) W #[v] 1 hs (by decide) rfl, rfl, fun j p hj => ?_⟩
  have hj0 : j = 0 := by
    have := (List.getElem?_eq_some_iff.1 hj).1
    simpa using this
  subst hj0
  have hp : (o, 0) = p := by simpa using hj
  subst hp
  refine ⟨v, rfl, ?_⟩
  exact Kd.R_mono (Kd.R_alloc (Kd.R_lower (Kd.R_bound h) hb) _) (fun k hk => ⟨⟨trivial, fun e => by simp [Value.ownBlock] at e; have := hk.2.2.1; omega⟩, rfl⟩)
/-- An element of rows of rows. -/
theorem C_row {W : World} {A : Option Addr} {n : Nat} {xs : List (List Int)} (h : Kd.C (Kd.slice 36 (Kd.int .u64)) W A n xs) (i : Nat) (hi : i < xs.length) : ∃ ad A1 c1, A = some ad ∧ W.cell? (ad.add i) = some (.slice A1 (xs.getD i []).length c1) ∧ (xs.getD i []).length ≤ c1 ∧ Kd.C (Kd.int .u64) W A1 (xs.getD i []).length (xs.getD i []) := by
  obtain ⟨ad, e, hc⟩ := h.2.2 (by rw [← h.1]; omega)
  obtain ⟨cs, hl, ⟨A1, c1, rfl, hlc, hC⟩, hcell⟩ := hc i (xs.getD i []) (by rw [List.getD_eq_getElem?_getD, List.getElem?_eq_getElem hi]; rfl)
  refine ⟨ad, A1, c1, e, ?_, hlc, hC⟩
  have := hcell 0 _ rfl
  rwa [show i * (Kd.slice 36 (Kd.int .u64)).sz + 0 = i from Nat.mul_one i] at this

/-! ### hyyro -/
def hyyro_Len.f (k : Nat) (a b : List Int) : Option Int :=
  if rgood a b = true then (PV.vec_Ones.f k b.length).bind fun o => (lenGo (PV.hyyro_Row.f k) k b a o).bind fun r => (PV.vec_Count.f k r b.length).bind fun c => some (wrap64 (b.length - c)) else none
theorem hyyro_Len.mono : ∀ a0 a1 k, LeO (hyyro_Len.f k a0 a1) (hyyro_Len.f (k + 1) a0 a1) := by
  intro a0 a1 k
  unfold hyyro_Len.f
  exact LeO.ite (LeO.bind (PV.vec_Ones.mono _ _) fun o => LeO.bind (lenGo_mono (fun x y z => PV.hyyro_Row.mono x y z k) k a1 a0 o) fun r => LeO.bind (PV.vec_Count.mono _ _ _) fun c => LeO.refl _) (LeO.refl _)
set_option maxHeartbeats 4000000 in
set_option maxRecDepth 100000 in
theorem hyyro_Len.calls (k : Nat) (A0 : Option Addr) (c0 : Nat) (l0 : List Int) (A1 : Option Addr) (c1 : Nat) (l1 : List Int) (r : Int) (w : World) (hr0 : Kd.C (Kd.int .i64) w A0 l0.length l0) (_hc0 : l0.length ≤ c0) (hr1 : Kd.C (Kd.int .i64) w A1 l1.length l1) (_hc1 : l1.length ≤ c1) (h : hyyro_Len.f k l0 l1 = some r) :
    Calls Try.prog 17 #[.slice A0 l0.length c0, .slice A1 l1.length c1] w fun e w' => e = .returned (.int .i64 r) ∧ Below w.heap.size w w' := by
  unfold hyyro_Len.f at h
  split at h
  · rename_i hg
    obtain ⟨hbig, hwa, hwb, _⟩ := rgood_at hg
    obtain ⟨o, ho, h⟩ := Option.bind_eq_some_iff.1 h
    obtain ⟨rr, hrr, h⟩ := Option.bind_eq_some_iff.1 h
    obtain ⟨cc, hcc, h⟩ := Option.bind_eq_some_iff.1 h
    injection h with h
    have hla : l0.length ≤ 9223372036854775807 := Kd.C_max hr0
    have HNEW := Lib.hid (new_mk A1 c1 l1 w hr1 hbig hwb)
    have HR0 := Lib.hid hr0
    have HO := Lib.hid ho
    have HRR := Lib.hid hrr
    have HCC := Lib.hid hcc
    have HH := Lib.hid h
    have HWA := Lib.hid hwa
    clear hr0 hr1 ho hrr hcc h hwa hwb hg
    go_enter Try.func17, Try.ntmps17
    go_wp2_with (first
      | (go_at_call 24; refine HNEW.out.mono ?_; rintro e w1 ⟨p, rfl, mk⟩; have MK1 := Lib.hid mk; clear mk HNEW)
      | (go_at_call 25; refine (PV.vec_Ones.calls k l1.length o _ HO.out).mono ?_; rintro e w2 ⟨v0, rfl, hR, hB⟩; have MK2 := Lib.hid (MK1.out.moved hB); have R2 := Lib.hid hR; clear hR hB MK1))
    go_loopg [6, 16] l0.length (fun gg s6 s16 wr => ∃ (i : Nat) (acc : List Int) (A c : _), s16 = .int .i64 i ∧ i ≤ l0.length ∧ l0.length - i ≤ gg ∧ s6 = .slice A acc.length c ∧ acc.length ≤ c ∧ Hid (Kd.C (Kd.int .u64) wr A acc.length acc) ∧ Hid (lenGo (PV.hyyro_Row.f k) k l1 (l0.drop i) acc = some rr) ∧ Hid (MK w p l1 wr))
    case atStart =>
      obtain ⟨A, c, hv, hl, hC⟩ := Kd.R_reads R2.out
      exact ⟨0, o, A, c, rfl, Nat.zero_le _, Nat.le_refl _, hv, hl, hC, by simpa using HRR, MK2⟩
    case round =>
      clear R2 HRR MK2 HO
      obtain ⟨i, acc, A, c, rfl, hi, hgg, rfl, hac, HC, HGO, MK3⟩ := hrel
      by_cases hlt : i < l0.length
      · obtain ⟨ad, e1, hcell⟩ := Kd.at_int (Kd.C_below HR0.out MK3.out.below) i (by omega) (by omega)
        subst e1
        rw [Int.toNat_natCast] at hcell
        have hx : YtkfgkefkmofdcaaW.PrintWords.rd l0 (i : Int) = l0[i] := by
          unfold YtkfgkefkmofdcaaW.PrintWords.rd
          rw [Int.toNat_natCast, List.getD_eq_getElem?_getD, List.getElem?_eq_getElem hlt]; rfl
        rw [hx] at hcell
        have hwx := HWA.out l0[i] (List.getElem_mem hlt)
        have hgo := HGO.out
        rw [List.drop_eq_getElem_cons hlt] at hgo
        generalize l0[i] = x at hcell hwx hgo
        unfold lenGo at hgo
        obtain ⟨u, hu, hgo⟩ := Option.bind_eq_some_iff.1 hgo
        obtain ⟨r', hr', hgo⟩ := Option.bind_eq_some_iff.1 hgo
        have HU := Lib.hid hu
        have HR' := Lib.hid hr'
        have HG := Lib.hid hgo
        have HWX := Lib.hid hwx
        clear hu hr' hgo hx hwx HGO
        go_wp2_with (first
          | (go_at_call 26; refine (of_mk k p l1 x u w _ MK3.out HWX.out hbig HU.out).mono ?_; rintro e w4 ⟨v4, rfl, hR, hB⟩
             have MK4 := Lib.hid (MK3.out.moved hB); have HC4 := Lib.hid (Kd.C_below HC.out hB)
             obtain ⟨A4, c4, rfl, hl4, hC4⟩ := Kd.R_reads hR; have HL4 := Lib.hid hl4; have HD4 := Lib.hid hC4; clear hR hB hl4 hC4 MK3 HC)
          | (go_at_call 19; refine (PV.hyyro_Row.calls k A c acc A4 c4 u l1.length r' _ HC4.out hac HD4.out HL4.out HR'.out).mono ?_; rintro e w5 ⟨v5, rfl, hR, hB⟩
             have MK5 := Lib.hid (MK4.out.moved hB)
             obtain ⟨A5, c5, rfl, hl5, hC5⟩ := Kd.R_reads hR; have HL5 := Lib.hid hl5; have HD5 := Lib.hid hC5; clear hR hB hl5 hC5 MK4 HC4 HD4))
        go_roundg (l0.length - (i + 1))
        case measure => omega
        case rel => exact ⟨i + 1, r', A5, c5, by go_num, by omega, Nat.le_refl _, rfl, HL5.out, HD5, HG, MK5⟩
      · obtain rfl : i = l0.length := by omega
        have hgo := HGO.out
        rw [List.drop_length] at hgo
        unfold lenGo at hgo
        injection hgo with hgo
        subst hgo
        clear HGO
        go_wp2_with (first
          | (go_at_call 30; refine (PV.vec_Count.calls k A c acc l1.length cc _ HC.out hac HCC.out).mono ?_; rintro e w6 ⟨rfl, hB⟩; have MK6 := Lib.hid (MK3.out.moved hB); clear hB MK3))
        go_ret
        exact ⟨by rw [← HH.out]; rfl, MK6.out.below⟩
  · cases h

def hyyro_Rows.f (k : Nat) (a b : List Int) : Option (List (List Int)) :=
  if rgood a b = true then (PV.vec_Ones.f k b.length).bind fun o => rowsGo (PV.hyyro_Row.f k) k b a [o] else none
theorem hyyro_Rows.mono : ∀ a0 a1 k, LeO (hyyro_Rows.f k a0 a1) (hyyro_Rows.f (k + 1) a0 a1) := by
  intro a0 a1 k
  unfold hyyro_Rows.f
  exact LeO.ite (LeO.bind (PV.vec_Ones.mono _ _) fun o => rowsGo_mono (fun x y z => PV.hyyro_Row.mono x y z k) k a1 a0 [o]) (LeO.refl _)
set_option maxHeartbeats 4000000 in
set_option maxRecDepth 100000 in
theorem hyyro_Rows.calls (k : Nat) (A0 : Option Addr) (c0 : Nat) (l0 : List Int) (A1 : Option Addr) (c1 : Nat) (l1 : List Int) (r : List (List Int)) (w : World) (hr0 : Kd.C (Kd.int .i64) w A0 l0.length l0) (_hc0 : l0.length ≤ c0) (hr1 : Kd.C (Kd.int .i64) w A1 l1.length l1) (_hc1 : l1.length ≤ c1) (h : hyyro_Rows.f k l0 l1 = some r) :
    Calls Try.prog 16 #[.slice A0 l0.length c0, .slice A1 l1.length c1] w fun e w' => ∃ v0_ : Value, e = .returned (v0_) ∧ Kd.S (Kd.slice 36 (Kd.int .u64)) 31 w' w.heap.size (fun _ => True) v0_ r ∧ Below w.heap.size w w' := by
  unfold hyyro_Rows.f at h
  split at h
  · rename_i hg
    obtain ⟨hbig, hwa, hwb, hroom⟩ := rgood_at hg
    obtain ⟨o, ho, h⟩ := Option.bind_eq_some_iff.1 h
    have hla : l0.length ≤ 9223372036854775807 := Kd.C_max hr0
    have HNEW := Lib.hid (new_mk A1 c1 l1 w hr1 hbig hwb)
    have HR0 := Lib.hid hr0
    have HO := Lib.hid ho
    have HH := Lib.hid h
    have HWA := Lib.hid hwa
    have HROOM := Lib.hid hroom
    clear hr0 hr1 ho h hwa hwb hg hroom
    go_enter Try.func16, Try.ntmps16
    go_wp2_with (first
      | (go_at_call 24; refine HNEW.out.mono ?_; rintro e w1 ⟨p, rfl, mk⟩; have MK1 := Lib.hid mk; clear mk HNEW)
      | (go_at_call 25; refine (PV.vec_Ones.calls k l1.length o _ HO.out).mono ?_; rintro e w2 ⟨v0, rfl, hR, hB⟩; have MK2 := Lib.hid (MK1.out.moved hB); obtain ⟨A2, c2, rfl⟩ := Kd.R_slice hR; have R2 := Lib.hid (Kd.R_lower hR MK1.out.below.size); clear hR hB MK1))
    have R3 := Lib.hid (S_single R2.out (Nat.le_refl _) MK2.out.below.size)
    have MK3 := Lib.hid (MK2.out.moved ((Below.refl _ w2).alloc (Nat.le_refl _) (.cells #[.slice A2 o.length c2] 31)))
    clear R2 MK2 HO
    go_loopg [6, 17] l0.length (fun gg s6 s17 wr => ∃ (i : Nat) (acc : List (List Int)), s17 = .int .i64 i ∧ i ≤ l0.length ∧ l0.length - i ≤ gg ∧ acc.length = i + 1 ∧ Hid (Kd.S (Kd.slice 36 (Kd.int .u64)) 31 wr w.heap.size (fun _ => True) s6 acc) ∧ Hid (rowsGo (PV.hyyro_Row.f k) k l1 (l0.drop i) acc = some r) ∧ Hid (MK w p l1 wr))
    case atStart => exact ⟨0, [o], rfl, Nat.zero_le _, Nat.le_refl _, rfl, R3, by simpa using HH, MK3⟩
    case round =>
      clear R3 HH MK3
      obtain ⟨i, acc, rfl, hi, hgg, hal, HR, HGO, MK4⟩ := hrel
      have HAL := Lib.hid hal
      clear hal
      by_cases hlt : i < l0.length
      · obtain ⟨ad, e1, hcell⟩ := Kd.at_int (Kd.C_below HR0.out MK4.out.below) i (by omega) (by omega)
        subst e1
        rw [Int.toNat_natCast] at hcell
        have hx : YtkfgkefkmofdcaaW.PrintWords.rd l0 (i : Int) = l0[i] := by
          unfold YtkfgkefkmofdcaaW.PrintWords.rd
          rw [Int.toNat_natCast, List.getD_eq_getElem?_getD, List.getElem?_eq_getElem hlt]; rfl
        rw [hx] at hcell
        have hwx := HWA.out l0[i] (List.getElem_mem hlt)
        have hgo := HGO.out
        rw [List.drop_eq_getElem_cons hlt] at hgo
        generalize l0[i] = x at hcell hwx hgo
        unfold rowsGo at hgo
        obtain ⟨u, hu, hgo⟩ := Option.bind_eq_some_iff.1 hgo
        obtain ⟨r', hr', hgo⟩ := Option.bind_eq_some_iff.1 hgo
        rw [show acc.length - 1 = i by have := HAL.out; omega] at hr'
        obtain ⟨g, cap, e6, hg1, hg2, hg4⟩ := Kd.S_form HR.out (by have := HAL.out; omega)
        subst e6
        have hrd := Kd.S_reads' HR.out
        obtain ⟨ad', A3, c3, e3, hcell3, hl3, hC3⟩ := C_row hrd.2.2 i (by have := HAL.out; omega)
        injection e3 with e3
        subst e3
        rw [add_plain] at hcell3
        generalize acc.getD i [] = li at hr' hcell3 hl3 hC3
        have HU := Lib.hid hu
        have HR' := Lib.hid hr'
        have HG := Lib.hid hgo
        have HWX := Lib.hid hwx
        have HC3 := Lib.hid hC3
        have HL3 := Lib.hid hl3
        have hil : (i : Int) < (acc.length : Int) := by have := HAL.out; omega
        have hi0 : (0 : Int) ≤ (i : Int) := by omega
        have HCELL := Lib.hid (fun W (hW : Below wr.heap.size wr W) => (hW.cell (p := ⟨g, i, none⟩) hg2).trans hcell3)
        have HG2 := Lib.hid hg2
        have HG3 := Lib.hid hg1
        obtain ⟨gcells, hg5⟩ := hg4
        have HG5 := Lib.hid hg5
        clear hu hr' hgo hx hwx HGO hC3 hl3 hcell3 hrd hg1 hg2 hg5
        go_wp2
        have q4 := HCELL.out wr (Below.refl _ _)
        go_region_law
          (first
            | (go_simp; go_at_call 26; refine (of_mk k p l1 x u w _ (MK4.out.moved (below_drew1 (Below.refl _ _))) HWX.out hbig HU.out).mono ?_; rintro e w5 ⟨v5, rfl, hR, hB⟩
               have B5 := Lib.hid ((below_drew1 (Below.refl _ wr)).trans hB)
               have q5 := HCELL.out w5 B5.out
               obtain ⟨A5, c5, rfl, hl5, hC5⟩ := Kd.R_reads hR; have HL5 := Lib.hid hl5; have HD5 := Lib.hid hC5; clear hR hB hl5 hC5)
            | (go_simp; go_at_call 19; refine (PV.hyyro_Row.calls k A3 c3 li A5 c5 u l1.length r' _ (Kd.C_below HC3.out B5.out) HL3.out HD5.out HL5.out HR'.out).mono ?_; rintro e w6 ⟨v6, rfl, hR, hB⟩
               have B6 := Lib.hid (B5.out.trans (hB.mono B5.out.size))
               have R6 := Lib.hid hR
               have HB6 := Lib.hid hB
               obtain ⟨A6, c6, rfl⟩ := Kd.R_slice R6.out
               clear hR hB)
            | (refine Kd.S_append_step (W := w6) (Kd.slice 36 (Kd.int .u64)) (w0 := w) w.heap.size (by rfl) _ _ 26 31 (.slice none 0 0) 24 (by rfl) Try.underlying26 info31 rfl Nat.one_pos (by decide) (.slice (some ⟨g, 0, none⟩) acc.length cap) acc r' [.slice A6 r'.length c6] (fun _ => True) (fun k_ => w5.heap.size ≤ k_) (by rfl) (by rfl)
                 (Kd.M_row (Kd.R_mono (Kd.R_lower (Kd.R_bound R6.out) (Nat.le_trans MK4.out.below.size B5.out.size)) (fun k_ hk_ => hk_.2.1))) (fun k_ hk_ => ⟨trivial, fun e_ => by simp [Value.ownBlock] at e_; have := HG2.out; have := B5.out.size; omega⟩) (fun _ _ => trivial)
                 (Kd.S_mono (Kd.S_step (Kd.S_bound HR.out) (fun k_ _ hk_ => B6.out.block k_ hk_)) (fun k_ hk_ => ⟨trivial, fun h_ => by have := hk_.2.2.1; have := B5.out.size; omega⟩)) (MK4.out.moved B6.out).below (MK4.out.moved B6.out).below.size (by have := HROOM.out; have := HAL.out; omega) ?_
               intro v7 w7 hR7 hB7 hg7 _
               have R7 := Lib.hid hR7
               have MK7 := Lib.hid ((MK4.out.moved B6.out).grown hg7 HG3.out (by exact (B6.out.block g HG2.out).trans HG5.out))
               clear hR7 hB7 hg7))
        all_goals
          go_wp2
          go_roundg (l0.length - (i + 1))
          case measure => omega
          case rel => exact ⟨i + 1, acc ++ [r'], by go_num, by omega, Nat.le_refl _, by have := HAL.out; simp; omega, R7, HG, MK7⟩
      · obtain rfl : i = l0.length := by omega
        have hgo := HGO.out
        rw [List.drop_length] at hgo
        unfold rowsGo at hgo
        injection hgo with hgo
        subst hgo
        clear HGO
        obtain ⟨A9, c9, rfl⟩ := Kd.S_slice HR.out
        go_wp2
        go_ret
        exact ⟨_, rfl, HR.out, MK4.out.below⟩
  · cases h

/-! ### croch -/
def croch_Len.f (k : Nat) (a b : List Int) : Option Int :=
  if rgood a b = true then (PV.vec_Ones.f k b.length).bind fun o => (lenGo (PV.croch_Row.f k) k b a o).bind fun r => (PV.vec_Count.f k r b.length).bind fun c => some (wrap64 (b.length - c)) else none
theorem croch_Len.mono : ∀ a0 a1 k, LeO (croch_Len.f k a0 a1) (croch_Len.f (k + 1) a0 a1) := by
  intro a0 a1 k
  unfold croch_Len.f
  exact LeO.ite (LeO.bind (PV.vec_Ones.mono _ _) fun o => LeO.bind (lenGo_mono (fun x y z => PV.croch_Row.mono x y z k) k a1 a0 o) fun r => LeO.bind (PV.vec_Count.mono _ _ _) fun c => LeO.refl _) (LeO.refl _)
set_option maxHeartbeats 4000000 in
set_option maxRecDepth 100000 in
theorem croch_Len.calls (k : Nat) (A0 : Option Addr) (c0 : Nat) (l0 : List Int) (A1 : Option Addr) (c1 : Nat) (l1 : List Int) (r : Int) (w : World) (hr0 : Kd.C (Kd.int .i64) w A0 l0.length l0) (_hc0 : l0.length ≤ c0) (hr1 : Kd.C (Kd.int .i64) w A1 l1.length l1) (_hc1 : l1.length ≤ c1) (h : croch_Len.f k l0 l1 = some r) :
    Calls Try.prog 13 #[.slice A0 l0.length c0, .slice A1 l1.length c1] w fun e w' => e = .returned (.int .i64 r) ∧ Below w.heap.size w w' := by
  unfold croch_Len.f at h
  split at h
  · rename_i hg
    obtain ⟨hbig, hwa, hwb, _⟩ := rgood_at hg
    obtain ⟨o, ho, h⟩ := Option.bind_eq_some_iff.1 h
    obtain ⟨rr, hrr, h⟩ := Option.bind_eq_some_iff.1 h
    obtain ⟨cc, hcc, h⟩ := Option.bind_eq_some_iff.1 h
    injection h with h
    have hla : l0.length ≤ 9223372036854775807 := Kd.C_max hr0
    have HNEW := Lib.hid (new_mk A1 c1 l1 w hr1 hbig hwb)
    have HR0 := Lib.hid hr0
    have HO := Lib.hid ho
    have HRR := Lib.hid hrr
    have HCC := Lib.hid hcc
    have HH := Lib.hid h
    have HWA := Lib.hid hwa
    clear hr0 hr1 ho hrr hcc h hwa hwb hg
    go_enter Try.func13, Try.ntmps13
    go_wp2_with (first
      | (go_at_call 24; refine HNEW.out.mono ?_; rintro e w1 ⟨p, rfl, mk⟩; have MK1 := Lib.hid mk; clear mk HNEW)
      | (go_at_call 25; refine (PV.vec_Ones.calls k l1.length o _ HO.out).mono ?_; rintro e w2 ⟨v0, rfl, hR, hB⟩; have MK2 := Lib.hid (MK1.out.moved hB); have R2 := Lib.hid hR; clear hR hB MK1))
    go_loopg [6, 16] l0.length (fun gg s6 s16 wr => ∃ (i : Nat) (acc : List Int) (A c : _), s16 = .int .i64 i ∧ i ≤ l0.length ∧ l0.length - i ≤ gg ∧ s6 = .slice A acc.length c ∧ acc.length ≤ c ∧ Hid (Kd.C (Kd.int .u64) wr A acc.length acc) ∧ Hid (lenGo (PV.croch_Row.f k) k l1 (l0.drop i) acc = some rr) ∧ Hid (MK w p l1 wr))
    case atStart =>
      obtain ⟨A, c, hv, hl, hC⟩ := Kd.R_reads R2.out
      exact ⟨0, o, A, c, rfl, Nat.zero_le _, Nat.le_refl _, hv, hl, hC, by simpa using HRR, MK2⟩
    case round =>
      clear R2 HRR MK2 HO
      obtain ⟨i, acc, A, c, rfl, hi, hgg, rfl, hac, HC, HGO, MK3⟩ := hrel
      by_cases hlt : i < l0.length
      · obtain ⟨ad, e1, hcell⟩ := Kd.at_int (Kd.C_below HR0.out MK3.out.below) i (by omega) (by omega)
        subst e1
        rw [Int.toNat_natCast] at hcell
        have hx : YtkfgkefkmofdcaaW.PrintWords.rd l0 (i : Int) = l0[i] := by
          unfold YtkfgkefkmofdcaaW.PrintWords.rd
          rw [Int.toNat_natCast, List.getD_eq_getElem?_getD, List.getElem?_eq_getElem hlt]; rfl
        rw [hx] at hcell
        have hwx := HWA.out l0[i] (List.getElem_mem hlt)
        have hgo := HGO.out
        rw [List.drop_eq_getElem_cons hlt] at hgo
        generalize l0[i] = x at hcell hwx hgo
        unfold lenGo at hgo
        obtain ⟨u, hu, hgo⟩ := Option.bind_eq_some_iff.1 hgo
        obtain ⟨r', hr', hgo⟩ := Option.bind_eq_some_iff.1 hgo
        have HU := Lib.hid hu
        have HR' := Lib.hid hr'
        have HG := Lib.hid hgo
        have HWX := Lib.hid hwx
        clear hu hr' hgo hx hwx HGO
        go_wp2_with (first
          | (go_at_call 26; refine (of_mk k p l1 x u w _ MK3.out HWX.out hbig HU.out).mono ?_; rintro e w4 ⟨v4, rfl, hR, hB⟩
             have MK4 := Lib.hid (MK3.out.moved hB); have HC4 := Lib.hid (Kd.C_below HC.out hB)
             obtain ⟨A4, c4, rfl, hl4, hC4⟩ := Kd.R_reads hR; have HL4 := Lib.hid hl4; have HD4 := Lib.hid hC4; clear hR hB hl4 hC4 MK3 HC)
          | (go_at_call 22; refine (PV.croch_Row.calls k A c acc A4 c4 u l1.length r' _ HC4.out hac HD4.out HL4.out HR'.out).mono ?_; rintro e w5 ⟨v5, rfl, hR, hB⟩
             have MK5 := Lib.hid (MK4.out.moved hB)
             obtain ⟨A5, c5, rfl, hl5, hC5⟩ := Kd.R_reads hR; have HL5 := Lib.hid hl5; have HD5 := Lib.hid hC5; clear hR hB hl5 hC5 MK4 HC4 HD4))
        go_roundg (l0.length - (i + 1))
        case measure => omega
        case rel => exact ⟨i + 1, r', A5, c5, by go_num, by omega, Nat.le_refl _, rfl, HL5.out, HD5, HG, MK5⟩
      · obtain rfl : i = l0.length := by omega
        have hgo := HGO.out
        rw [List.drop_length] at hgo
        unfold lenGo at hgo
        injection hgo with hgo
        subst hgo
        clear HGO
        go_wp2_with (first
          | (go_at_call 30; refine (PV.vec_Count.calls k A c acc l1.length cc _ HC.out hac HCC.out).mono ?_; rintro e w6 ⟨rfl, hB⟩; have MK6 := Lib.hid (MK3.out.moved hB); clear hB MK3))
        go_ret
        exact ⟨by rw [← HH.out]; rfl, MK6.out.below⟩
  · cases h

def croch_Rows.f (k : Nat) (a b : List Int) : Option (List (List Int)) :=
  if rgood a b = true then (PV.vec_Ones.f k b.length).bind fun o => rowsGo (PV.croch_Row.f k) k b a [o] else none
theorem croch_Rows.mono : ∀ a0 a1 k, LeO (croch_Rows.f k a0 a1) (croch_Rows.f (k + 1) a0 a1) := by
  intro a0 a1 k
  unfold croch_Rows.f
  exact LeO.ite (LeO.bind (PV.vec_Ones.mono _ _) fun o => rowsGo_mono (fun x y z => PV.croch_Row.mono x y z k) k a1 a0 [o]) (LeO.refl _)
set_option maxHeartbeats 4000000 in
set_option maxRecDepth 100000 in
theorem croch_Rows.calls (k : Nat) (A0 : Option Addr) (c0 : Nat) (l0 : List Int) (A1 : Option Addr) (c1 : Nat) (l1 : List Int) (r : List (List Int)) (w : World) (hr0 : Kd.C (Kd.int .i64) w A0 l0.length l0) (_hc0 : l0.length ≤ c0) (hr1 : Kd.C (Kd.int .i64) w A1 l1.length l1) (_hc1 : l1.length ≤ c1) (h : croch_Rows.f k l0 l1 = some r) :
    Calls Try.prog 11 #[.slice A0 l0.length c0, .slice A1 l1.length c1] w fun e w' => ∃ v0_ : Value, e = .returned (v0_) ∧ Kd.S (Kd.slice 36 (Kd.int .u64)) 31 w' w.heap.size (fun _ => True) v0_ r ∧ Below w.heap.size w w' := by
  unfold croch_Rows.f at h
  split at h
  · rename_i hg
    obtain ⟨hbig, hwa, hwb, hroom⟩ := rgood_at hg
    obtain ⟨o, ho, h⟩ := Option.bind_eq_some_iff.1 h
    have hla : l0.length ≤ 9223372036854775807 := Kd.C_max hr0
    have HNEW := Lib.hid (new_mk A1 c1 l1 w hr1 hbig hwb)
    have HR0 := Lib.hid hr0
    have HO := Lib.hid ho
    have HH := Lib.hid h
    have HWA := Lib.hid hwa
    have HROOM := Lib.hid hroom
    clear hr0 hr1 ho h hwa hwb hg hroom
    go_enter Try.func11, Try.ntmps11
    go_wp2_with (first
      | (go_at_call 24; refine HNEW.out.mono ?_; rintro e w1 ⟨p, rfl, mk⟩; have MK1 := Lib.hid mk; clear mk HNEW)
      | (go_at_call 25; refine (PV.vec_Ones.calls k l1.length o _ HO.out).mono ?_; rintro e w2 ⟨v0, rfl, hR, hB⟩; have MK2 := Lib.hid (MK1.out.moved hB); obtain ⟨A2, c2, rfl⟩ := Kd.R_slice hR; have R2 := Lib.hid (Kd.R_lower hR MK1.out.below.size); clear hR hB MK1))
    have R3 := Lib.hid (S_single R2.out (Nat.le_refl _) MK2.out.below.size)
    have MK3 := Lib.hid (MK2.out.moved ((Below.refl _ w2).alloc (Nat.le_refl _) (.cells #[.slice A2 o.length c2] 31)))
    clear R2 MK2 HO
    go_loopg [6, 17] l0.length (fun gg s6 s17 wr => ∃ (i : Nat) (acc : List (List Int)), s17 = .int .i64 i ∧ i ≤ l0.length ∧ l0.length - i ≤ gg ∧ acc.length = i + 1 ∧ Hid (Kd.S (Kd.slice 36 (Kd.int .u64)) 31 wr w.heap.size (fun _ => True) s6 acc) ∧ Hid (rowsGo (PV.croch_Row.f k) k l1 (l0.drop i) acc = some r) ∧ Hid (MK w p l1 wr))
    case atStart => exact ⟨0, [o], rfl, Nat.zero_le _, Nat.le_refl _, rfl, R3, by simpa using HH, MK3⟩
    case round =>
      clear R3 HH MK3
      obtain ⟨i, acc, rfl, hi, hgg, hal, HR, HGO, MK4⟩ := hrel
      have HAL := Lib.hid hal
      clear hal
      by_cases hlt : i < l0.length
      · obtain ⟨ad, e1, hcell⟩ := Kd.at_int (Kd.C_below HR0.out MK4.out.below) i (by omega) (by omega)
        subst e1
        rw [Int.toNat_natCast] at hcell
        have hx : YtkfgkefkmofdcaaW.PrintWords.rd l0 (i : Int) = l0[i] := by
          unfold YtkfgkefkmofdcaaW.PrintWords.rd
          rw [Int.toNat_natCast, List.getD_eq_getElem?_getD, List.getElem?_eq_getElem hlt]; rfl
        rw [hx] at hcell
        have hwx := HWA.out l0[i] (List.getElem_mem hlt)
        have hgo := HGO.out
        rw [List.drop_eq_getElem_cons hlt] at hgo
        generalize l0[i] = x at hcell hwx hgo
        unfold rowsGo at hgo
        obtain ⟨u, hu, hgo⟩ := Option.bind_eq_some_iff.1 hgo
        obtain ⟨r', hr', hgo⟩ := Option.bind_eq_some_iff.1 hgo
        rw [show acc.length - 1 = i by have := HAL.out; omega] at hr'
        obtain ⟨g, cap, e6, hg1, hg2, hg4⟩ := Kd.S_form HR.out (by have := HAL.out; omega)
        subst e6
        have hrd := Kd.S_reads' HR.out
        obtain ⟨ad', A3, c3, e3, hcell3, hl3, hC3⟩ := C_row hrd.2.2 i (by have := HAL.out; omega)
        injection e3 with e3
        subst e3
        rw [add_plain] at hcell3
        generalize acc.getD i [] = li at hr' hcell3 hl3 hC3
        have HU := Lib.hid hu
        have HR' := Lib.hid hr'
        have HG := Lib.hid hgo
        have HWX := Lib.hid hwx
        have HC3 := Lib.hid hC3
        have HL3 := Lib.hid hl3
        have hil : (i : Int) < (acc.length : Int) := by have := HAL.out; omega
        have hi0 : (0 : Int) ≤ (i : Int) := by omega
        have HCELL := Lib.hid (fun W (hW : Below wr.heap.size wr W) => (hW.cell (p := ⟨g, i, none⟩) hg2).trans hcell3)
        have HG2 := Lib.hid hg2
        have HG3 := Lib.hid hg1
        obtain ⟨gcells, hg5⟩ := hg4
        have HG5 := Lib.hid hg5
        clear hu hr' hgo hx hwx HGO hC3 hl3 hcell3 hrd hg1 hg2 hg5
        go_wp2
        have q4 := HCELL.out wr (Below.refl _ _)
        go_region_law
          (first
            | (go_simp; go_at_call 26; refine (of_mk k p l1 x u w _ (MK4.out.moved (below_drew1 (Below.refl _ _))) HWX.out hbig HU.out).mono ?_; rintro e w5 ⟨v5, rfl, hR, hB⟩
               have B5 := Lib.hid ((below_drew1 (Below.refl _ wr)).trans hB)
               have q5 := HCELL.out w5 B5.out
               obtain ⟨A5, c5, rfl, hl5, hC5⟩ := Kd.R_reads hR; have HL5 := Lib.hid hl5; have HD5 := Lib.hid hC5; clear hR hB hl5 hC5)
            | (go_simp; go_at_call 22; refine (PV.croch_Row.calls k A3 c3 li A5 c5 u l1.length r' _ (Kd.C_below HC3.out B5.out) HL3.out HD5.out HL5.out HR'.out).mono ?_; rintro e w6 ⟨v6, rfl, hR, hB⟩
               have B6 := Lib.hid (B5.out.trans (hB.mono B5.out.size))
               have R6 := Lib.hid hR
               have HB6 := Lib.hid hB
               obtain ⟨A6, c6, rfl⟩ := Kd.R_slice R6.out
               clear hR hB)
            | (refine Kd.S_append_step (W := w6) (Kd.slice 36 (Kd.int .u64)) (w0 := w) w.heap.size (by rfl) _ _ 26 31 (.slice none 0 0) 24 (by rfl) Try.underlying26 info31 rfl Nat.one_pos (by decide) (.slice (some ⟨g, 0, none⟩) acc.length cap) acc r' [.slice A6 r'.length c6] (fun _ => True) (fun k_ => w5.heap.size ≤ k_) (by rfl) (by rfl)
                 (Kd.M_row (Kd.R_mono (Kd.R_lower (Kd.R_bound R6.out) (Nat.le_trans MK4.out.below.size B5.out.size)) (fun k_ hk_ => hk_.2.1))) (fun k_ hk_ => ⟨trivial, fun e_ => by simp [Value.ownBlock] at e_; have := HG2.out; have := B5.out.size; omega⟩) (fun _ _ => trivial)
                 (Kd.S_mono (Kd.S_step (Kd.S_bound HR.out) (fun k_ _ hk_ => B6.out.block k_ hk_)) (fun k_ hk_ => ⟨trivial, fun h_ => by have := hk_.2.2.1; have := B5.out.size; omega⟩)) (MK4.out.moved B6.out).below (MK4.out.moved B6.out).below.size (by have := HROOM.out; have := HAL.out; omega) ?_
               intro v7 w7 hR7 hB7 hg7 _
               have R7 := Lib.hid hR7
               have MK7 := Lib.hid ((MK4.out.moved B6.out).grown hg7 HG3.out (by exact (B6.out.block g HG2.out).trans HG5.out))
               clear hR7 hB7 hg7))
        all_goals
          go_wp2
          go_roundg (l0.length - (i + 1))
          case measure => omega
          case rel => exact ⟨i + 1, acc ++ [r'], by go_num, by omega, Nat.le_refl _, by have := HAL.out; simp; omega, R7, HG, MK7⟩
      · obtain rfl : i = l0.length := by omega
        have hgo := HGO.out
        rw [List.drop_length] at hgo
        unfold rowsGo at hgo
        injection hgo with hgo
        subst hgo
        clear HGO
        obtain ⟨A9, c9, rfl⟩ := Kd.S_slice HR.out
        go_wp2
        go_ret
        exact ⟨_, rfl, HR.out, MK4.out.below⟩
  · cases h
end Go.Proofs.Ytkfgkefkmofdcaa.Man
