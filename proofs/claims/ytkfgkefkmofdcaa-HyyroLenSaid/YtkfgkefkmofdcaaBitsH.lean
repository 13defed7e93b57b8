/- tattingref7.Ahead: the table of both lists turned round, read from its end. -/
import Derived.Test.YtkfgkefkmofdcaaBitsG
import Derived.IntWalk
namespace Go.Proofs.Ytkfgkefkmofdcaa.Man
open Go.RowKit Go.Sort Go.Proofs.YtkfgkefkmofdcaaW.PrintWords Go.Proofs.YtkfgkefkmofdcaaW.PrintLast Go.Proofs.YtkfgkefkmofdcaaW.PrintMore

theorem info22 : (Try.prog.info? 22).map (fun i => (i.zero, i.size, i.bytes)) = some (some (.slice none 0 0), 1, 24) := by kernel_rfl
/-- The outer cells when i rows are made. -/
def outerc (g n m i : Nat) : List Value := (List.range (n + 1)).map fun q => if q < i then .slice (some ⟨g + 1 + q, 0, none⟩) (m + 1) (m + 1) else .slice none 0 0
theorem outerc_length (g n m i : Nat) : (outerc g n m i).length = n + 1 := by simp [outerc]
theorem outerc_at (g n m i q : Nat) (hq : q < n + 1) : (outerc g n m i)[q]? = some (if q < i then .slice (some ⟨g + 1 + q, 0, none⟩) (m + 1) (m + 1) else .slice none 0 0) := by
  simp [outerc, List.getElem?_map, List.getElem?_range hq]
theorem outerc_set (g n m i : Nat) (_hi : i < n + 1) : (outerc g n m i).set i (.slice (some ⟨g + 1 + i, 0, none⟩) (m + 1) (m + 1)) = outerc g n m (i + 1) := by
  apply List.ext_getElem?
  intro q
  by_cases hq : q < n + 1
  · rw [List.getElem?_set, outerc_at _ _ _ _ _ hq, outerc_length, outerc_at _ _ _ _ _ hq]
    by_cases e : i = q
    · subst e; simp [hq]
    · rw [if_neg e]
      have : (q < i + 1) ↔ (q < i) := by omega
      simp only [this]
  · rw [List.getElem?_eq_none (by simp [outerc]; omega), List.getElem?_eq_none (by simp [outerc]; omega)]
structure AH (w3 : World) (g n m i : Nat) (row : Nat → List Int) (wr : World) : Prop where
  below : Below w3.heap.size w3 wr
  hg : w3.heap.size = g
  size : wr.heap.size = g + 1 + i
  outer : wr.heap[g]? = some (.cells (outerc g n m i).toArray 22)
  rows : ∀ q, q < i → wr.heap[g + 1 + q]? = some (.cells (nums .i64 (row q)).toArray 3)
theorem AH.start (w3 : World) (n m : Nat) (row : Nat → List Int) : AH w3 w3.heap.size n m 0 row (w3.alloc (.cells (madeCells #[.slice none 0 0] (n + 1)) 22)) := by
  have hcs : madeCells #[.slice none 0 0] (n + 1) = (outerc w3.heap.size n m 0).toArray := by
    apply Array.toList_inj.1
    rw [toList_madeCells_one]
    simp [outerc]
    apply List.ext_getElem <;> simp
  rw [hcs]
  exact ⟨(Below.refl _ _).alloc (Nat.le_refl _) _, rfl, by simp, heap_alloc_new _ _, fun q hq => by omega⟩
theorem AH.cell {w3 wr : World} {g n m i : Nat} {row : Nat → List Int} (h : AH w3 g n m i row wr) (q : Nat) (hq : q < n + 1) : wr.cell? ⟨g, q, none⟩ = some (if q < i then .slice (some ⟨g + 1 + q, 0, none⟩) (m + 1) (m + 1) else .slice none 0 0) := by
  rw [cell_of_row wr g q _ _ _ h.outer, List.getElem?_toArray, outerc_at _ _ _ _ _ hq]
theorem AH.frozen {w3 wr : World} {g n m i : Nat} {row : Nat → List Int} (h : AH w3 g n m i row wr) (q : Nat) : wr.frozen? ⟨g, q, none⟩ = false := by
  simp [World.frozen?, h.outer]
/-- A row more, of noughts. -/
theorem AH.add {w3 wr : World} {g n m i : Nat} {row : Nat → List Int} (h : AH w3 g n m i row wr) (hi : i < n + 1) :
    AH w3 g n m (i + 1) (fun q => if q = i then List.replicate (m + 1) 0 else row q) ((wr.alloc (.cells (madeCells #[.int .i64 0] (m + 1)) 3)).setCell ⟨g, i, none⟩ (.slice (some ⟨wr.heap.size, 0, none⟩) (m + 1) (m + 1))) := by
  have hb : Below w3.heap.size w3 (wr.alloc (.cells (madeCells #[.int .i64 0] (m + 1)) 3)) := h.below.alloc h.below.size _
  have ho : (wr.alloc (.cells (madeCells #[.int .i64 0] (m + 1)) 3)).heap[g]? = some (.cells (outerc g n m i).toArray 22) := (((Below.refl _ wr).alloc (Nat.le_refl _) _).block g (by rw [h.size]; omega)).trans h.outer
  have hcs : madeCells #[.int .i64 0] (m + 1) = (nums .i64 (List.replicate (m + 1) 0)).toArray := by
    apply Array.toList_inj.1
    rw [toList_madeCells_one, show nums .i64 (List.replicate (m + 1) 0) = (List.replicate (m + 1) (0 : Int)).map (Value.int .i64) from rfl, List.map_replicate]
  refine ⟨hb.setCell (by rw [h.hg]; exact Nat.le_refl _) _, h.hg, by simp [h.size]; omega, ?_, fun q hq => ?_⟩
  · rw [heap_setCell_same _ g i _ _ _ ho]
    congr 2
    rw [h.size, ← outerc_set g n m i hi]
    simp
  · rw [Below.heap_setCell _ _ _ _ (show g + 1 + q ≠ g by omega)]
    by_cases e : q = i
    · subst e
      rw [if_pos rfl, ← h.size, heap_alloc_new, hcs]
    · rw [if_neg e, ((Below.refl _ wr).alloc (Nat.le_refl _) _).block _ (by rw [h.size]; omega)]
      exact h.rows q (by omega)
theorem AH.set {w3 wr : World} {g n m i : Nat} {row : Nat → List Int} (h : AH w3 g n m i row wr) (q j : Nat) (hq : q < i) (u : Int) :
    AH w3 g n m i (fun q' => if q' = q then (row q).set j u else row q') (wr.setCell ⟨g + 1 + q, j, none⟩ (.int .i64 u)) := by
  refine ⟨h.below.setCell (by rw [h.hg]; show g ≤ g + 1 + q; omega) _, h.hg, by simp [h.size], (Below.heap_setCell _ _ _ _ (show g ≠ g + 1 + q by omega)).trans h.outer, fun q' hq' => ?_⟩
  by_cases e : q' = q
  · subst e
    rw [if_pos rfl, heap_setCell_same wr (g + 1 + q') j _ _ _ (h.rows q' hq')]
    congr 2
    rw [show nums .i64 ((row q').set j u) = ((row q').set j u).map (Value.int .i64) from rfl, show nums .i64 (row q') = (row q').map (Value.int .i64) from rfl, List.map_set]
    simp
  · rw [if_neg e, Below.heap_setCell _ _ _ _ (show g + 1 + q' ≠ g + 1 + q by omega)]
    exact h.rows q' hq'
theorem AH.row {w3 wr : World} {g n m i : Nat} {row : Nat → List Int} (h : AH w3 g n m i row wr) (hr : ∀ q, (row q).length = m + 1) (hm : m < 9223372036854775807) (q : Nat) (hq : q < i) (ok : Nat → Prop) (hok : ok (g + 1 + q)) : Kd.R (Kd.int .i64) 3 wr g ok (.slice (some ⟨g + 1 + q, 0, none⟩) (m + 1) (m + 1)) (row q) := by
  have ho := own_of_block (base := g) (n := m + 1) (h.rows q hq) (by omega) (by rw [show nums .i64 (row q) = (row q).map (Value.int .i64) from rfl]; simp [hr q]) (by omega)
  have hR := R_ints (k := .i64) (l := row q) (v := .slice (some ⟨g + 1 + q, 0, none⟩) (m + 1) (m + 1)) (by rw [hr q]; simpa using ho)
  refine ⟨fun k hk => ?_, hR.2.imp_ (fun _ _ hp => hp)⟩
  simp [Value.ownBlock] at hk
  rw [← hk]; exact hok
theorem AH.congr {w3 wr : World} {g n m i : Nat} {row row' : Nat → List Int} (h : AH w3 g n m i row wr) (hr : ∀ q, q < i → row' q = row q) : AH w3 g n m i row' wr :=
  ⟨h.below, h.hg, h.size, h.outer, fun q hq => by rw [hr q hq]; exact h.rows q hq⟩
theorem AH.drew' {w3 wr : World} {g n m i : Nat} {row : Nat → List Int} (h : AH w3 g n m i row wr) : AH w3 g n m i row wr.drew :=
  ⟨below_drew1 h.below, h.hg, h.size, h.outer, h.rows⟩
/-- All rows made: a row of rows of the call's own. -/
theorem AH.done {w3 wr : World} {g n m : Nat} {row : Nat → List Int} (h : AH w3 g n m (n + 1) row wr) (hr : ∀ q, (row q).length = m + 1) (hm : m < 9223372036854775807) (hn : n < 9223372036854775807) :
    Kd.S (Kd.slice 3 (Kd.int .i64)) 22 wr g (fun _ => True) (.slice (some ⟨g, 0, none⟩) (n + 1) (n + 1)) ((List.range (n + 1)).map row) := by
  have ho := own_of_block (base := g) (n := n + 1) h.outer (Nat.le_refl _) (by simp [outerc]) (by omega)
  have hl : ((List.range (n + 1)).map row).length = n + 1 := by simp
  refine ⟨fun k => k - (g + 1), fun _ _ => trivial, outerc g n m (n + 1), by rw [List.length_zipIdx, hl]; exact ho, by rw [List.length_zipIdx, hl, outerc_length]; exact (Nat.mul_one _).symm, fun q p hq => ?_⟩
  have hqn : q < n + 1 := by have := (List.getElem?_eq_some_iff.1 hq).1; simpa using this
  rw [List.getElem?_zipIdx, List.getElem?_map, List.getElem?_range hqn] at hq
  have hp : (row q, q) = p := by simpa using hq
  subst hp
  have hv := outerc_at g n m (n + 1) q hqn
  rw [if_pos hqn] at hv
  have hl1 : q < (outerc g n m (n + 1)).length := by rw [outerc_length]; exact hqn
  rw [List.getElem?_eq_getElem hl1] at hv
  injection hv with hv
  refine ⟨.slice (some ⟨g + 1 + q, 0, none⟩) (m + 1) (m + 1), ?_, h.row hr hm q hqn _ ⟨⟨trivial, fun e => by simp [Value.ownBlock] at e; omega⟩, by show g + 1 + q - (g + 1) = q; omega⟩⟩
  show ((outerc g n m (n + 1)).drop (q * 1)).take 1 = _
  rw [Nat.mul_one, List.drop_eq_getElem_cons hl1, hv]
  rfl
/-- The table, read from its end. -/
def aheadT (t : List (List Int)) (n m : Nat) : List (List Int) := (List.range (n + 1)).map fun i => (List.range (m + 1)).map fun j => (t.getD (n - i) []).getD (m - j) 0
def ashape (t : List (List Int)) (n m : Nat) : Bool := decide (t.length = n + 1) && (t.all (fun r => decide (r.length = m + 1)) && (decide ((n + 1) * 24 ≤ 140737488355328) && decide ((m + 1) * 8 ≤ 140737488355328)))
theorem ashape_at {t : List (List Int)} {n m : Nat} (h : ashape t n m = true) : t.length = n + 1 ∧ (∀ i, i < n + 1 → (t.getD i []).length = m + 1) ∧ (n + 1) * 24 ≤ 140737488355328 ∧ (m + 1) * 8 ≤ 140737488355328 := by
  unfold ashape at h
  simp only [Bool.and_eq_true, decide_eq_true_eq, List.all_eq_true] at h
  refine ⟨h.1, fun i hi => h.2.1 _ ?_, h.2.2.1, h.2.2.2⟩
  rw [List.getD_eq_getElem?_getD, List.getElem?_eq_getElem (by omega)]
  exact List.getElem_mem _
def tattingref7_Ahead.f (k : Nat) (a b : List Int) : Option (List (List Int)) :=
  (PV.tattingref7_Turned.f k a).bind fun x => (PV.tattingref7_Turned.f k b).bind fun y => (PV.tattingref7_Behind.f k x y).bind fun t => if ashape t a.length b.length = true then some (aheadT t a.length b.length) else none
theorem tattingref7_Ahead.mono : ∀ a0 a1 k, LeO (tattingref7_Ahead.f k a0 a1) (tattingref7_Ahead.f (k + 1) a0 a1) := by
  intro a0 a1 k
  unfold tattingref7_Ahead.f
  exact LeO.bind (PV.tattingref7_Turned.mono _ _) fun x => LeO.bind (PV.tattingref7_Turned.mono _ _) fun y => LeO.bind (PV.tattingref7_Behind.mono _ _ _) fun t => LeO.refl _
/-- A row of the table of which j numbers are laid. -/
def arow (t : List (List Int)) (n m i j : Nat) : List Int := (List.range (m + 1)).map fun q => if q < j then (t.getD (n - i) []).getD (m - q) 0 else 0
theorem arow_length (t : List (List Int)) (n m i j : Nat) : (arow t n m i j).length = m + 1 := by simp [arow]
theorem arow_zero (t : List (List Int)) (n m i : Nat) : arow t n m i 0 = List.replicate (m + 1) 0 := by
  apply List.ext_getElem <;> simp [arow]
theorem arow_set (t : List (List Int)) (n m i j : Nat) : (arow t n m i j).set j ((t.getD (n - i) []).getD (m - j) 0) = arow t n m i (j + 1) := by
  apply List.ext_getElem?
  intro q
  by_cases hq : q < m + 1
  · rw [List.getElem?_set, arow_length]
    simp only [arow, List.getElem?_map, List.getElem?_range hq, Option.map_some]
    by_cases e : j = q
    · subst e; simp [hq]
    · rw [if_neg e]
      have : (q < j + 1) ↔ (q < j) := by omega
      simp only [this]
  · rw [List.getElem?_eq_none (by simp [arow]; omega), List.getElem?_eq_none (by simp [arow]; omega)]
theorem C_irow {W : World} {A : Option Addr} {n : Nat} {xs : List (List Int)} (h : Kd.C (Kd.slice 3 (Kd.int .i64)) W A n xs) (i : Nat) (hi : i < xs.length) : ∃ ad A1 c1, A = some ad ∧ W.cell? (ad.add i) = some (.slice A1 (xs.getD i []).length c1) ∧ (xs.getD i []).length ≤ c1 ∧ Kd.C (Kd.int .i64) W A1 (xs.getD i []).length (xs.getD i []) := by
  obtain ⟨ad, e, hc⟩ := h.2.2 (by rw [← h.1]; omega)
  obtain ⟨cs, hl, ⟨A1, c1, rfl, hlc, hC⟩, hcell⟩ := hc i (xs.getD i []) (by rw [List.getD_eq_getElem?_getD, List.getElem?_eq_getElem hi]; rfl)
  refine ⟨ad, A1, c1, e, ?_, hlc, hC⟩
  have := hcell 0 _ rfl
  rwa [show i * (Kd.slice 3 (Kd.int .i64)).sz + 0 = i from Nat.mul_one i] at this

theorem turned_n (k : Nat) (A0 : Option Addr) (c0 : Nat) (l0 : List Int) (n : Nat) (r : List Int) (w : World) (hn : l0.length = n) (hr0 : Kd.C (Kd.int .i64) w A0 n l0) (hc0 : n ≤ c0) (h : PV.tattingref7_Turned.f k l0 = some r) :
    Calls Try.prog 46 #[.slice A0 n c0] w fun e w' => ∃ A c, e = .returned (.slice A r.length c) ∧ r.length ≤ c ∧ Kd.C (Kd.int .i64) w' A r.length r ∧ Below w.heap.size w w' := by
  subst hn
  refine (PV.tattingref7_Turned.calls k A0 c0 l0 r w hr0 hc0 h).mono ?_
  rintro e w' ⟨v, rfl, hR, hB⟩
  obtain ⟨A, c, rfl, hl, hC⟩ := Kd.R_reads hR
  exact ⟨A, c, rfl, hl, hC, hB⟩
set_option maxHeartbeats 4000000 in
set_option maxRecDepth 100000 in
theorem tattingref7_Ahead.calls (k : Nat) (A0 : Option Addr) (c0 : Nat) (l0 : List Int) (A1 : Option Addr) (c1 : Nat) (l1 : List Int) (r : List (List Int)) (w : World) (hr0 : Kd.C (Kd.int .i64) w A0 l0.length l0) (hc0 : l0.length ≤ c0) (hr1 : Kd.C (Kd.int .i64) w A1 l1.length l1) (hc1 : l1.length ≤ c1) (h : tattingref7_Ahead.f k l0 l1 = some r) :
    Calls Try.prog 27 #[.slice A0 l0.length c0, .slice A1 l1.length c1] w fun e w' => ∃ v0_ : Value, e = .returned (v0_) ∧ Kd.S (Kd.slice 3 (Kd.int .i64)) 22 w' w.heap.size (fun _ => True) v0_ r ∧ Below w.heap.size w w' := by
  unfold tattingref7_Ahead.f at h
  obtain ⟨x, hx, h⟩ := Option.bind_eq_some_iff.1 h
  obtain ⟨y, hy, h⟩ := Option.bind_eq_some_iff.1 h
  obtain ⟨t, ht, h⟩ := Option.bind_eq_some_iff.1 h
  split at h
  · rename_i hsh
    injection h with h
    obtain ⟨s1, s2, s3, s4⟩ := ashape_at hsh
    have HX := Lib.hid hx; have HY := Lib.hid hy; have HT := Lib.hid ht; have HH := Lib.hid h
    have HR0 := Lib.hid hr0; have HR1 := Lib.hid hr1
    have S1 := Lib.hid s1; have S2 := Lib.hid s2
    clear hx hy ht h hr0 hr1 hsh s1 s2
    generalize hn : l0.length = n at *
    generalize hm : l1.length = m at *
    have HN := Lib.hid hn; have HM := Lib.hid hm
    clear hn hm
    have hmk := print_make_of (P := Try.prog) 41 22 (.slice none 0 0) 24 Try.underlying41 info22 rfl (by decide) (n + 1) (by omega)
    rw [show ((n + 1 : Nat) : Int) = (n : Int) + 1 by omega] at hmk
    have hmk2 := print_make_of (P := Try.prog) 22 3 (.int .i64 0) 8 Try.underlying22 info3 rfl (by decide) (m + 1) (by omega)
    rw [show ((m + 1 : Nat) : Int) = (m : Int) + 1 by omega] at hmk2
    go_enter Try.func27, Try.ntmps27
    go_wp2_with (first
      | (go_at_call 46; ((with_reducible refine (turned_n k A0 c0 l0 n x w HN.out HR0.out hc0 HX.out).mono ?_); rintro e w1 ⟨A2, c2, rfl, hl, hC, hB⟩; have L2 := Lib.hid hl; have C2 := Lib.hid hC; have B2 := Lib.hid hB; clear hl hC hB))
      | (go_at_call 46; ((with_reducible refine (turned_n k A1 c1 l1 m y _ HM.out (Kd.C_below HR1.out B2.out) hc1 HY.out).mono ?_); rintro e w2 ⟨A3, c3, rfl, hl, hC, hB⟩; have L3 := Lib.hid hl; have C3 := Lib.hid hC; have C2' := Lib.hid (Kd.C_below C2.out hB); have B3 := Lib.hid (B2.out.trans (hB.mono B2.out.size)); clear hl hC hB))
      | (go_at_call 31; refine (PV.tattingref7_Behind.calls k A2 c2 x A3 c3 y t _ C2'.out L2.out C3.out L3.out HT.out).mono ?_; rintro e w4 ⟨v4, rfl, hS, hB⟩; have B4 := Lib.hid (B3.out.trans (hB.mono B3.out.size)); obtain ⟨A4, c4, rfl, _, hC⟩ := Kd.S_reads hS; have C4 := Lib.hid hC; clear hS hC hB))
    have A0' := Lib.hid (AH.start w4 n m (fun q => arow t n m q (m + 1)))
    have TL := Lib.hid (S1.out)
    clear hmk C2 C3 C2' L2 L3 B2 B3 HX HY HT HR0 HR1
    generalize hgg0 : w4.heap.size = g at A0' ⊢
    have GG := Lib.hid hgg0
    clear hgg0
    have hn1 : n ≤ 140737488355328 := by omega
    have hm1 : m ≤ 140737488355328 := by omega
    go_loopg [7] (n + 1) (fun gg s7 wr => ∃ i : Nat, s7 = .int .i64 i ∧ i ≤ n + 1 ∧ n + 1 - i ≤ gg ∧ Hid (AH w4 g n m i (fun q => arow t n m q (m + 1)) wr))
    case atStart => exact ⟨0, rfl, Nat.zero_le _, Nat.le_refl _, A0'⟩
    case round =>
      clear A0'
      obtain ⟨i, rfl, hi, hgg, HA⟩ := hrel
      by_cases hlt : i < n + 1
      · have hlt1 : (i : Int) ≤ (n : Int) := by omega
        have hlt2 : (i : Int) < (n : Int) + 1 := by omega
        have hlt3 : i ≤ n := by omega
        have f6 := (HA.out.below.alloc HA.out.below.size (.cells (madeCells #[.int .i64 0] (m + 1)) 3))
        have hc6 : (wr.alloc (.cells (madeCells #[.int .i64 0] (m + 1)) 3)).cell? ⟨g, i, none⟩ = some (.slice none 0 0) := by
          rw [((Below.refl _ wr).alloc (Nat.le_refl _) _).cell (p := ⟨g, i, none⟩) (by rw [HA.out.size]; show g < _; omega), HA.out.cell i hlt, if_neg (Nat.lt_irrefl _)]
        have hf6 : (wr.alloc (.cells (madeCells #[.int .i64 0] (m + 1)) 3)).frozen? ⟨g, i, none⟩ = false := by
          rw [((Below.refl _ wr).alloc (Nat.le_refl _) _).frozen (p := ⟨g, i, none⟩) (by rw [HA.out.size]; show g < _; omega)]
          exact HA.out.frozen i
        have A1' := Lib.hid (HA.out.add hlt)
        clear f6
        go_wp2
        go_loopg [8] (m + 1) (fun gg s8 wq => ∃ j : Nat, s8 = .int .i64 j ∧ j ≤ m + 1 ∧ m + 1 - j ≤ gg ∧ Hid (AH w4 g n m (i + 1) (fun q => if q = i then arow t n m i j else arow t n m q (m + 1)) wq))
        case atStart => exact ⟨0, rfl, Nat.zero_le _, Nat.le_refl _, by rw [arow_zero]; exact A1'⟩
        case round =>
          clear A1' HA hc6 hf6
          obtain ⟨j, rfl, hj, hgg2, HA2⟩ := hrel
          by_cases hjl : j < m + 1
          · have hj1 : (j : Int) ≤ (m : Int) := by omega
            have hj2 : (j : Int) < (m : Int) + 1 := by omega
            obtain ⟨ad4, A5, c5, e4, hcell4, _, hC5⟩ := C_irow C4.out (n - i) (by have := S1.out; omega)
            subst e4
            have hrl := S2.out (n - i) (by omega)
            rw [hrl] at hcell4 hC5
            obtain ⟨ad5, e5, hcell5⟩ := Kd.at_int hC5 ((m - j : Nat) : Int) (by omega) (by omega)
            subst e5
            rw [Int.toNat_natCast] at hcell5
            have hb4 := World.block_lt_of_cell? w4 _ hcell4
            have hb5 := World.block_lt_of_cell? w4 _ hcell5
            replace hcell4 := (HA2.out.below.cell hb4).trans hcell4
            replace hcell5 := (HA2.out.below.cell hb5).trans hcell5
            have hval : YtkfgkefkmofdcaaW.PrintWords.rd (t.getD (n - i) []) ((m - j : Nat) : Int) = (t.getD (n - i) []).getD (m - j) 0 := by unfold YtkfgkefkmofdcaaW.PrintWords.rd; rw [Int.toNat_natCast]
            rw [hval] at hcell5
            clear hval hrl hC5
            have hc6 := HA2.out.cell i hlt
            rw [if_pos (Nat.lt_succ_self i)] at hc6
            have hf7 : wr.frozen? ⟨g + 1 + i, j, none⟩ = false := by simp [World.frozen?, HA2.out.rows i (Nat.lt_succ_self i)]
            have hc7 : wr.cell? ⟨g + 1 + i, j, none⟩ = some (.int .i64 0) := by
              rw [cell_of_row wr (g + 1 + i) j _ _ _ (HA2.out.rows i (Nat.lt_succ_self i)), if_pos rfl, show nums .i64 (arow t n m i j) = (arow t n m i j).map (Value.int .i64) from rfl, List.getElem?_toArray, List.getElem?_map]
              simp only [arow, List.getElem?_map, List.getElem?_range hjl, Option.map_some]
              rw [if_neg (Nat.lt_irrefl _)]
            have A3' := Lib.hid (HA2.out.set i j (Nat.lt_succ_self i) ((t.getD (n - i) []).getD (m - j) 0))
            generalize hu : (t.getD (n - i) []).getD (m - j) 0 = u at hcell5 A3'
            have HUU := Lib.hid hu
            clear hu
            have HKP : Hid ((wr.setCell ⟨g + 1 + i, j, none⟩ (.int .i64 u)).cell? ⟨g, i, none⟩ = some (.slice (some ⟨g + 1 + i, 0, none⟩) (m + 1) (m + 1)) ∧ (wr.setCell ⟨g + 1 + i, j, none⟩ (.int .i64 u)).cell? (ad4.add (n - i)) = some (.slice (some ad5) (m + 1) c5) ∧ (wr.setCell ⟨g + 1 + i, j, none⟩ (.int .i64 u)).cell? (ad5.add (m - j)) = some (.int .i64 u)) :=
              ⟨(World.cell?_of_block (Below.heap_setCell wr ⟨g + 1 + i, j, none⟩ _ _ (show g ≠ g + 1 + i by omega))).trans hc6,
               (World.cell?_of_block (Below.heap_setCell wr ⟨g + 1 + i, j, none⟩ _ _ (show (ad4.add (n - i)).block ≠ g + 1 + i by have := GG.out; omega))).trans hcell4,
               (World.cell?_of_block (Below.heap_setCell wr ⟨g + 1 + i, j, none⟩ _ _ (show (ad5.add (m - j)).block ≠ g + 1 + i by have := GG.out; omega))).trans hcell5⟩
            clear hb4 hb5
            have q1 : (0 : Int) ≤ (n : Int) - (i : Int) := by omega
            have q2 : (n : Int) - (i : Int) < (t.length : Int) := by have := S1.out; omega
            have q3 : (0 : Int) ≤ (m : Int) - (j : Int) := by omega
            have q4 : (m : Int) - (j : Int) < (m : Int) + 1 := by omega
            have v2 : ((n : Int) - (i : Int)).toNat = n - i := by omega
            have v4 : ((m : Int) - (j : Int)).toNat = m - j := by omega
            have v1 : IntKind.i64.wrap ((n : Int) - (i : Int)) = (n : Int) - (i : Int) := by rw [IntKind.wrap_i64]; omega
            have v3 : IntKind.i64.wrap ((m : Int) - (j : Int)) = (m : Int) - (j : Int) := by rw [IntKind.wrap_i64]; omega
            go_wp2
            go_region_held3 (fun W => W.cell? ⟨g, i, none⟩ = some (.slice (some ⟨g + 1 + i, 0, none⟩) (m + 1) (m + 1)) ∧ W.cell? (ad4.add (n - i)) = some (.slice (some ad5) (m + 1) c5) ∧ W.cell? (ad5.add (m - j)) = some (.int .i64 u)) (first | exact HKP.out | go_keep) (fail)
            clear v1 v2 v3 v4 q1 q2 q3 q4
            go_wp2
            go_roundg (m + 1 - (j + 1))
            case measure => omega
            case rel =>
              refine ⟨j + 1, by go_num, by omega, Nat.le_refl _, Lib.hid ?_⟩
              have h9 := A3'.out
              refine AH.drew' (AH.congr h9 fun q hq => ?_)
              by_cases e : q = i
              · subst e; simp only [if_true]; rw [← HUU.out, arow_set]
              · rw [if_neg e, if_neg e, if_neg e]
          · obtain rfl : j = m + 1 := by omega
            go_wp2
            go_roundg (n + 1 - (i + 1))
            case measure => omega
            case rel =>
              refine ⟨i + 1, by go_num, by omega, Nat.le_refl _, Lib.hid (AH.congr HA2.out fun q hq => ?_)⟩
              by_cases e : q = i
              · subst e; rw [if_pos rfl]
              · rw [if_neg e]
      · obtain rfl : i = n + 1 := by omega
        go_wp2
        go_ret
        refine ⟨_, rfl, ?_, ?_⟩
        · have hd := HA.out.done (fun q => arow_length t n m q (m + 1)) (by omega) (by omega)
          have he : (List.range (n + 1)).map (fun q => arow t n m q (m + 1)) = aheadT t n m := by
            unfold aheadT
            refine List.map_congr_left fun q _ => ?_
            unfold arow
            refine List.map_congr_left fun j hj => ?_
            rw [if_pos (List.mem_range.1 hj)]
          rw [he, HH.out] at hd
          exact Kd.S_lower hd (by rw [← GG.out]; exact B4.out.size)
        · exact B4.out.trans (HA.out.below.mono B4.out.size)
  · cases h
end Go.Proofs.Ytkfgkefkmofdcaa.Man
