/- mask.New: a map of rows of bits, one for each number. -/
import Derived.Test.YtkfgkefkmofdcaaBitsD
import Derived.Deep.RegionHeld3
import Derived.Deep.DrawnRows
namespace Go.Proofs.Ytkfgkefkmofdcaa.Man
open Go.RowKit Go.Sort Go.Proofs.YtkfgkefkmofdcaaW.PrintWords Go.Proofs.YtkfgkefkmofdcaaW.PrintLast Go.Proofs.YtkfgkefkmofdcaaW.PrintMore

/-- The words of the places j at which x stands, of the first ones. -/
def mrow (b : List Int) (x : Int) : Nat → List Int
  | 0 => List.replicate (wds b.length) 0
  | j + 1 => if b.getD j 0 = x then (mrow b x j).set (j / 64) (Go.bits .or .u64 (YtkfgkefkmofdcaaW.PrintWords.rd (mrow b x j) ((j : Int) / 64)) (IntKind.u64.wrap (2 ^ (j % 64)))) else mrow b x j
theorem mrow_length (b : List Int) (x : Int) (j : Nat) : (mrow b x j).length = wds b.length := by
  induction j with
  | zero => simp [mrow]
  | succ j ih =>
    unfold mrow
    split <;> simp [ih]

/-- The block of a Masks: n, the numbers, the map. -/
def pcells (n : Nat) (v : Value) (mb : Nat) : Array Value := #[.int .i64 n, v, .map (some mb)]
structure PB (w : World) (p : Nat) (n : Nat) (v : Value) (mb : Nat) (wr : World) : Prop where
  blk : wr.heap[p]? = some (.cells (pcells n v mb) 52)
theorem PB.c0 {w wr : World} {p n mb : Nat} {v : Value} (h : PB w p n v mb wr) : wr.cell? ⟨p, 0, none⟩ = some (.int .i64 n) := by
  rw [cell_of_row wr p 0 _ _ _ h.blk]; rfl
theorem PB.c1 {w wr : World} {p n mb : Nat} {v : Value} (h : PB w p n v mb wr) : wr.cell? ⟨p, 1, none⟩ = some v := by
  rw [cell_of_row wr p 1 _ _ _ h.blk]; rfl
theorem PB.c2 {w wr : World} {p n mb : Nat} {v : Value} (h : PB w p n v mb wr) : wr.cell? ⟨p, 2, none⟩ = some (.map (some mb)) := by
  rw [cell_of_row wr p 2 _ _ _ h.blk]; rfl
theorem PB.f1 {w wr : World} {p n mb : Nat} {v : Value} (h : PB w p n v mb wr) : wr.frozen? ⟨p, 1, none⟩ = false := by
  simp [World.frozen?, h.blk]
theorem PB.lt {w wr : World} {p n mb : Nat} {v : Value} (h : PB w p n v mb wr) : p < wr.heap.size := (Array.getElem?_eq_some_iff.1 h.blk).1
theorem PB.set {w wr : World} {p n mb : Nat} {v : Value} (h : PB w p n v mb wr) (v' : Value) : PB w p n v' mb (wr.setCell ⟨p, 1, none⟩ v') := by
  refine ⟨?_⟩
  rw [heap_setCell_same wr p 1 _ _ _ h.blk]; rfl
theorem PB.moved {w wr w1 : World} {p n mb : Nat} {v : Value} (h : PB w p n v mb wr) (hb : Below wr.heap.size wr w1) : PB w p n v mb w1 := ⟨(hb.block p h.lt).trans h.blk⟩
theorem PB.grown {w wr w1 : World} {p n mb : Nat} {v : Value} (h : PB w p n v mb wr) {g : Option Nat} (hb : wr.grownBy w1 g) (hg : g ≠ some p) : PB w p n v mb w1 := ⟨(hb.block p h.lt (fun e => hg e.symm)).trans h.blk⟩

theorem PB.types {w wr : World} {p n mb : Nat} {v : Value} (h : PB w p n v mb wr) : ∀ o, wr.heap[p]? = some o → (∀ es ck, o ≠ .map es ck) ∧ ∀ cs, o ≠ .cells cs 36 := by
  intro o ho
  rw [h.blk] at ho
  injection ho with ho
  subst ho
  exact ⟨fun _ _ e => (by cases e), fun cs e => (by cases e)⟩
theorem ms_row {w wr w1 : World} {mb W N base e : Nat} {S : Int → Prop} {row : Int → List Int} {v : Value} {n : Nat} {xs : List Value} (h : MS w mb W N S row wr) (ho : wr.ownsRow base e 1 v n xs) (hg : wr.grownBy w1 v.ownBlock) (hb : w.heap.size ≤ base) (he : e ≠ 36) : MS w mb W N S row w1 := by
  cases hv : v.ownBlock with
  | none =>
    rw [hv] at hg
    exact h.moved ((Below.refl _ _).grown hg (Nat.le_refl _) (fun k hk => by cases hk))
  | some g =>
    rw [hv] at hg
    refine h.grown hg (Nat.le_trans hb (own_base ho g hv)) (fun o ho' => ?_)
    obtain ⟨cells, hc⟩ := own_typed ho g hv
    rw [hc] at ho'
    injection ho' with ho'
    subst ho'
    exact ⟨fun _ _ e => (by cases e), fun cs e' => by injection e' with _ e'; exact he e'⟩

set_option maxHeartbeats 400000 in
set_option maxRecDepth 100000 in
theorem new_walk (A0 : Option Addr) (c0 : Nat) (l : List Int) (w : World) (hr0 : Kd.C (Kd.int .i64) w A0 l.length l) (hbig : l.length ≤ 1048576) (hwf : ∀ x ∈ l, (Lit.int .i64 x).wf = true) :
    Calls Try.prog 24 #[.slice A0 l.length c0] w fun e w' => ∃ p mb N v, e = .returned (.pointer (some ⟨p, 0, none⟩)) ∧ PB w p l.length v mb w' ∧ MS w mb (wds l.length) N (fun x => x ∈ l) (fun x => mrow l x l.length) w' := by
  have HCL := Lib.hid (fun W (hW : Below w.heap.size w W) => clone_ints A0 c0 l W (Kd.C_below hr0 hW) (by omega))
  have hmm := @run_makeMap Try.prog
  have HR := Lib.hid hr0
  have HWF := Lib.hid hwf
  clear hr0 hwf
  have hb0 : Below w.heap.size w ((w.alloc (.map #[] 0)).alloc (.cells (pcells l.length (.slice none 0 0) w.heap.size) 52)) := ((Below.refl _ w).alloc (Nat.le_refl _) _).alloc (by simp) _
  have hms0 : MS w w.heap.size (wds l.length) 0 (fun _ => False) (fun _ => []) ((w.alloc (.map #[] 0)).alloc (.cells (pcells l.length (.slice none 0 0) w.heap.size) 52)) := (MS.start (Below.refl _ w) _ _).moved ((Below.refl _ _).alloc (Nat.le_refl _) _)
  have hpb0 : PB w (w.heap.size + 1) l.length (.slice none 0 0) w.heap.size ((w.alloc (.map #[] 0)).alloc (.cells (pcells l.length (.slice none 0 0) w.heap.size) 52)) := ⟨by have := heap_alloc_new (w.alloc (.map #[] 0)) (.cells (pcells l.length (.slice none 0 0) w.heap.size) 52); rwa [World.size_alloc] at this⟩
  have HB0 := Lib.hid hb0
  have MS0 := Lib.hid hms0
  have PB0 := Lib.hid hpb0
  clear hb0 hms0 hpb0
  simp only [pcells] at HB0 MS0 PB0
  go_enter Try.func24, Try.ntmps24
  go_wp2_with (first
    | (go_at_call 43; refine (HCL.out _ HB0.out).mono ?_; rintro e w1 ⟨v1, rfl, own1, b1⟩; have PB1 := Lib.hid (PB0.out.moved b1); have MS1 := Lib.hid (MS0.out.moved b1); have LE1 := Lib.hid b1.size
       obtain ⟨A1, cc1, rfl⟩ := Kd.R_slice (R_ints own1); have OWN1 := Lib.hid own1; clear own1 b1; have x1 := PB1.out.f1; have y1 := PB1.out.c1)
    | (go_at_call 44; go_loud (
       have OWN2 := Lib.hid (own_move (w1 := w1.setCell ⟨w.heap.size + 1, 1, none⟩ (.slice A1 l.length cc1)) OWN1.out (fun k hk => Below.heap_setCell _ _ _ _ (by have := own_base OWN1.out k hk; simp at this ⊢; omega)))
       have PB2 := Lib.hid (PB1.out.set (.slice A1 l.length cc1))
       have MS2 := Lib.hid (MS1.out.far (MS1.out.below.setCell (Nat.le_succ _) _) (fun k _ hne => Below.heap_setCell w1 ⟨w.heap.size + 1, 1, none⟩ (.slice A1 l.length cc1) k hne) PB1.out.types)
       have CS := Lib.hid (sort_ints _ _ _ l OWN2.out (by omega))
       (with_reducible refine CS.out.mono ?_)
       clear CS
       rintro e w2 ⟨rfl, own2, g2⟩
       have PB3 := Lib.hid (PB2.out.grown g2 (fun e => by have := own_base OWN2.out _ e; simp only [World.size_alloc] at this; omega))
       have MS3 := Lib.hid (ms_row MS2.out OWN2.out g2 (by simp only [World.size_alloc]; omega) (by decide))
       have OWN3 := Lib.hid own2; clear own2 g2 x1 y1 OWN1 OWN2 PB1 MS1
       have x1 := PB3.out.f1; have y1 := PB3.out.c1))
    | (go_at_call 45; go_loud (
       skip
       have CC := Lib.hid (compact_ints _ _ _ (sortS l) OWN3.out)
       (with_reducible refine CC.out.mono ?_)
       clear CC
       rintro e w3 ⟨v3, rfl, own3, g3, hb3⟩
       have PB4 := Lib.hid (PB3.out.grown g3 (fun e => by have := own_base OWN3.out _ e; simp only [World.size_alloc] at this; omega))
       have MS4 := Lib.hid (ms_row MS3.out OWN3.out g3 (by simp only [World.size_alloc]; omega) (by decide))
       obtain ⟨A4, cc4, rfl⟩ := Kd.R_slice (R_ints own3)
       have OWN4 := Lib.hid own3; clear own3 g3 x1 y1 OWN3 PB3 MS3
       have x1 := PB4.out.f1; have y1 := PB4.out.c1)))
  have PB5 := Lib.hid (PB4.out.set (.slice A4 (Lib.compact (sortS l)).length cc4))
  have MS5 := Lib.hid (MS4.out.far (MS4.out.below.setCell (Nat.le_succ _) _) (fun k _ hne => Below.heap_setCell w3 ⟨w.heap.size + 1, 1, none⟩ (.slice A4 (Lib.compact (sortS l)).length cc4) k hne) PB4.out.types)
  have OWN5 := Lib.hid (own_move (w1 := w3.setCell ⟨w.heap.size + 1, 1, none⟩ (.slice A4 (Lib.compact (sortS l)).length cc4)) OWN4.out (fun k hk => Below.heap_setCell _ _ _ _ (by have := own_base OWN4.out k hk; simp only [World.size_alloc] at this; simp; omega)))
  clear OWN4 PB4 MS4 x1 y1 PB0 MS0 HB0 HCL hmm LE1 PB2 MS2
  have hlen : (Lib.compact (sortS l)).length ≤ 1048576 := Nat.le_trans (compact_le _) (by rw [sortS_length]; exact hbig)
  generalize hs : Lib.compact (sortS l) = s at PB5 MS5 OWN5 hlen
  have HSS := Lib.hid hs
  clear hs
  have HWX : Hid (∀ i (h : i < s.length) {x : Int}, s[i] = x → (Lit.int .i64 x).wf = true) := by
    intro i h x e
    refine HWF.out x ((syms_mem l x).1 ?_)
    unfold syms
    rw [HSS.out, ← e]
    exact List.getElem_mem h
  generalize w3.setCell ⟨w.heap.size + 1, 1, none⟩ (.slice A4 s.length cc4) = w5 at PB5 MS5 OWN5
  have hnw : wds l.length * 8 ≤ 281474976710656 := by unfold wds; omega
  have hmk := print_make_of (P := Try.prog) 31 36 (.int .u64 0) 8 Try.underlying31 info36 rfl (by decide) (wds l.length) hnw
  go_loopg [36] s.length (fun gg s36 wr => ∃ i : Nat, s36 = .int .i64 i ∧ i ≤ s.length ∧ s.length - i ≤ gg ∧ Hid (PB w (w.heap.size + 1) l.length (.slice A4 s.length cc4) w.heap.size wr) ∧ Hid (MS w w.heap.size (wds l.length) i (fun x => x ∈ s.take i) (fun _ => List.replicate (wds l.length) 0) wr) ∧ Hid (wr.ownsRow w.heap.size 3 1 (.slice A4 s.length cc4) s.length (nums .i64 s)))
  case atStart => exact ⟨0, rfl, Nat.zero_le _, Nat.le_refl _, PB5, Lib.hid (MS5.out.iff (fun x => by simp) (fun _ h => h.elim)), Lib.hid (own_weaken OWN5.out (by simp only [World.size_alloc]; omega))⟩
  case round =>
    clear PB5 MS5 OWN5
    obtain ⟨i, rfl, hi, hgg, PB6, MS6, OWN6⟩ := hrel
    by_cases hlt : i < s.length
    · obtain ⟨A', c', e, hA, hA0, _⟩ := own_form OWN6.out
      injection e with e1 _ e3
      subst e1 e3
      obtain ⟨ad, rfl⟩ : ∃ ad, A4 = some ad := by
        cases A4 with
        | none => have := hA0 rfl; omega
        | some ad => exact ⟨ad, rfl⟩
      have hcell := (hA ad rfl).2.2 i (.int .i64 s[i]) (by rw [show nums .i64 s = s.map (Value.int .i64) from rfl, List.getElem?_map, List.getElem?_eq_getElem hlt]; rfl)
      clear hA hA0
      generalize hx : s[i] = x at hcell
      have HX := Lib.hid hx
      clear hx
      have x0 := PB6.out.c0
      have x2 := PB6.out.c2
      go_wp2
      have HK : Hid (∀ W, Below wr.heap.size wr W → W.cell? ⟨w.heap.size + 1, 2, none⟩ = some (.map (some w.heap.size)) ∧ W.cell? ⟨w.heap.size + 1, 0, none⟩ = some (.int .i64 l.length) ∧ ∀ b, (Instr.mapUpdate 50 (.map (some w.heap.size)) (.int .i64 x) (.slice (some ⟨b, 0, none⟩) (wds l.length) (wds l.length))).run Try.prog W = .ok () (mput w.heap.size (wds l.length) x W b)) :=
        fun W hW => ⟨(PB6.out.moved hW).c2, (PB6.out.moved hW).c0, (MS6.out.moved hW).put_run x (HWX.out i hlt HX.out) (by unfold maxLen; omega)⟩
      have hcs : madeCells #[.int .u64 0] (wds l.length) = (nums .u64 (List.replicate (wds l.length) 0)).toArray := by
        apply Array.toList_inj.1
        rw [toList_madeCells_one, show nums .u64 (List.replicate (wds l.length) 0) = (List.replicate (wds l.length) (0 : Int)).map (Value.int .u64) from rfl, List.map_replicate]
      have h7 := MS.put x (HWX.out i hlt HX.out) (by unfold maxLen; omega) _ hcs (MS6.out.moved (below_drew1 (Below.refl _ wr)))
      obtain ⟨ms7, g7⟩ := h7
      replace ms7 : MS w w.heap.size (wds l.length) (i + 1) _ _ (mput w.heap.size (wds l.length) x (wr.alloc (.cells (madeCells #[.int .u64 0] (wds l.length)) 36)).drew wr.heap.size) := ms7
      replace g7 : ((wr.alloc (.cells (madeCells #[.int .u64 0] (wds l.length)) 36)).drew).grownBy (mput w.heap.size (wds l.length) x (wr.alloc (.cells (madeCells #[.int .u64 0] (wds l.length)) 36)).drew wr.heap.size) (some w.heap.size) := g7
      have MS7 := Lib.hid ms7
      have PB7 := Lib.hid ((PB6.out.moved (below_drew1 (below_alloc (Below.refl _ wr) (.cells (madeCells #[.int .u64 0] (wds l.length)) 36)))).grown g7 (by intro e; injection e with e; omega))
      have OWN7 := Lib.hid (own_move (w1 := mput w.heap.size (wds l.length) x (wr.alloc (.cells (madeCells #[.int .u64 0] (wds l.length)) 36)).drew wr.heap.size) OWN6.out (fun k hk => by
        have h1 := own_lt OWN6.out k hk
        rw [g7.block k (by simp [World.drew]; omega) (fun e => by
          injection e with e
          subst e
          obtain ⟨cs, hc⟩ := own_typed OWN6.out _ hk
          obtain ⟨β, D, ⟨es, ck, hb', _⟩, _⟩ := MS6.out.own
          rw [hb'] at hc; cases hc)]
        exact (below_drew1 (below_alloc (Below.refl _ wr) _)).block k h1))
      clear ms7 g7 hcs
      have HK7 : Hid ((mput w.heap.size (wds l.length) x (wr.alloc (.cells (madeCells #[.int .u64 0] (wds l.length)) 36)).drew wr.heap.size).cell? ⟨w.heap.size + 1, 2, none⟩ = some (.map (some w.heap.size)) ∧ (mput w.heap.size (wds l.length) x (wr.alloc (.cells (madeCells #[.int .u64 0] (wds l.length)) 36)).drew wr.heap.size).cell? ⟨w.heap.size + 1, 0, none⟩ = some (.int .i64 l.length) ∧ ∀ b, (Instr.mapUpdate 50 (.map (some w.heap.size)) (.int .i64 x) (.slice (some ⟨b, 0, none⟩) (wds l.length) (wds l.length))).run Try.prog (mput w.heap.size (wds l.length) x (wr.alloc (.cells (madeCells #[.int .u64 0] (wds l.length)) 36)).drew wr.heap.size) = .ok () (mput w.heap.size (wds l.length) x (mput w.heap.size (wds l.length) x (wr.alloc (.cells (madeCells #[.int .u64 0] (wds l.length)) 36)).drew wr.heap.size) b)) :=
        ⟨PB7.out.c2, PB7.out.c0, MS7.out.put_run x (HWX.out i hlt HX.out) (by unfold maxLen; omega)⟩
      go_region_held3 (fun W => W.cell? ⟨w.heap.size + 1, 2, none⟩ = some (.map (some w.heap.size)) ∧ W.cell? ⟨w.heap.size + 1, 0, none⟩ = some (.int .i64 l.length) ∧ ∀ b, (Instr.mapUpdate 50 (.map (some w.heap.size)) (.int .i64 x) (.slice (some ⟨b, 0, none⟩) (wds l.length) (wds l.length))).run Try.prog W = .ok () (mput w.heap.size (wds l.length) x W b))
        (first | exact HK7.out | exact HK.out _ (by repeat (first | exact Below.refl _ _ | apply below_alloc | apply below_drew1)))
        (first | (go_at_call 42; refine (words_q l.length hbig _).mono ?_; rintro e w' ⟨rfl, rfl⟩))
      generalize mput w.heap.size (wds l.length) x (wr.alloc (.cells (madeCells #[.int .u64 0] (wds l.length)) 36)).drew wr.heap.size = w7 at MS7 PB7 OWN7
      clear HK HK7 MS6 PB6 OWN6
      go_wp2
      go_roundg (s.length - (i + 1))
      case measure => omega
      case rel => exact ⟨i + 1, by go_num, by omega, Nat.le_refl _, PB7, Lib.hid (MS7.out.iff (fun y => by rw [List.take_succ_eq_append_getElem hlt, HX.out]; simp) (fun y _ => by split <;> rfl)), OWN7⟩
    · obtain rfl : i = s.length := by omega
      clear hmk
      have MS8 : Hid (MS w w.heap.size (wds l.length) s.length (fun x => x ∈ l) (fun x => mrow l x 0) wr) := Lib.hid (MS6.out.iff (fun x => by rw [List.take_length, ← HSS.out]; exact (syms_mem l x).symm) (fun _ _ => rfl))
      clear MS6 OWN6
      go_wp2
      go_loopg [54] l.length (fun gg s54 wr => ∃ j : Nat, s54 = .int .i64 j ∧ j ≤ l.length ∧ l.length - j ≤ gg ∧ Hid (PB w (w.heap.size + 1) l.length (.slice A4 s.length cc4) w.heap.size wr) ∧ Hid (MS w w.heap.size (wds l.length) s.length (fun x => x ∈ l) (fun x => mrow l x j) wr))
      case atStart => exact ⟨0, rfl, Nat.zero_le _, Nat.le_refl _, PB6, MS8⟩
      case round =>
        clear PB6 MS8
        obtain ⟨j, rfl, hj, hgg, PB9, MS9⟩ := hrel
        by_cases hjl : j < l.length
        · obtain ⟨ad, e1, hcell⟩ := Kd.at_int (Kd.C_below HR.out MS9.out.below) j (by omega) (by omega)
          subst e1
          have hxm : YtkfgkefkmofdcaaW.PrintWords.rd l (j : Int) ∈ l := by
            unfold YtkfgkefkmofdcaaW.PrintWords.rd
            rw [Int.toNat_natCast, List.getD_eq_getElem?_getD, List.getElem?_eq_getElem hjl]
            exact List.getElem_mem hjl
          rw [Int.toNat_natCast] at hcell
          generalize hx : YtkfgkefkmofdcaaW.PrintWords.rd l (j : Int) = x at hcell hxm
          have HX := Lib.hid hx
          have HM := Lib.hid hxm
          clear hx hxm
          have hlk := MS9.out.look x (HWF.out x HM.out)
          obtain ⟨v, hrun, hv, _⟩ := hlk
          obtain ⟨b, rfl, hb1, hb2⟩ := hv HM.out
          have x0 := PB9.out.c0
          have x2 := PB9.out.c2
          have hq : j / 64 < wds l.length := by unfold wds; omega
          have hqi : (j : Int) / 64 < (wds l.length : Int) := by omega
          have hcw : wr.cell? ⟨b, j / 64, none⟩ = some (.int .u64 (YtkfgkefkmofdcaaW.PrintWords.rd (mrow l x j) ((j : Int) / 64))) := by
            rw [cell_of_row wr b (j / 64) _ _ _ hb2]
            have hl := mrow_length l x j
            rw [show nums .u64 (mrow l x j) = (mrow l x j).map (Value.int .u64) from rfl, List.getElem?_toArray, List.getElem?_map, List.getElem?_eq_getElem (by omega)]
            unfold YtkfgkefkmofdcaaW.PrintWords.rd
            rw [show ((j : Int) / 64).toNat = j / 64 by omega, List.getD_eq_getElem?_getD, List.getElem?_eq_getElem (by omega)]
            rfl
          have hfw : wr.frozen? ⟨b, j / 64, none⟩ = false := by simp [World.frozen?, hb2]
          have HB2 := Lib.hid hb2
          have HV := Lib.hid hv
          clear hb2 hv
          go_wp2_with (go_at_call 42; refine (words_q l.length hbig _).mono ?_; rintro e w' ⟨rfl, rfl⟩)
          go_roundg (l.length - (j + 1))
          case measure => omega
          case rel =>
            have h9 := MS9.out.set x HM.out b (j / 64) (Go.bits .or .u64 (YtkfgkefkmofdcaaW.PrintWords.rd (mrow l x j) ((j : Int) / 64)) (IntKind.u64.wrap (2 ^ (j % 64)))) ⟨_, hrun, rfl⟩ (HWF.out x HM.out)
            have hbp : w.heap.size + 1 ≠ b := by
              rintro rfl
              exact (PB9.out.types _ HB2.out).2 _ rfl
            refine ⟨j + 1, by go_num, by omega, Nat.le_refl _, Lib.hid ⟨(Below.heap_setCell _ ⟨b, j / 64, none⟩ _ _ hbp).trans PB9.out.blk⟩, Lib.hid (h9.iff (fun _ => Iff.rfl) (fun y _ => ?_))⟩
            have hxj : l.getD j 0 = x := by rw [← HX.out]; unfold YtkfgkefkmofdcaaW.PrintWords.rd; rw [Int.toNat_natCast]
            show mrow l y (j + 1) = _
            rw [mrow, hxj]
            by_cases e : y = x
            · subst e; rw [if_pos rfl]
            · rw [if_neg (fun e' => e e'.symm), if_neg e]
        · obtain rfl : j = l.length := by omega
          go_wp2
          go_ret
          exact ⟨_, _, _, _, rfl, PB9.out, MS9.out⟩
end Go.Proofs.Ytkfgkefkmofdcaa.Man
