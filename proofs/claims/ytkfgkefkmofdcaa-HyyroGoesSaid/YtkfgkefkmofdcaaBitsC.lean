/- slices.Clone, slices.Sort and slices.Compact over a row of numbers of the call's own. -/
import Derived.Test.YtkfgkefkmofdcaaShelf
import Derived.Test.YtkfgkefkmofdcaaPVx2
import Derived.Laws.AppendOwnNone
import Derived.Lib.Hide
namespace Go.Proofs.Ytkfgkefkmofdcaa.Man
open Go.RowKit Go.Sort Go.Proofs.YtkfgkefkmofdcaaW.PrintWords Go.Proofs.YtkfgkefkmofdcaaW.PrintLast Go.Proofs.YtkfgkefkmofdcaaW.PrintMore

theorem info3 : (Try.prog.info? 3).map (fun i => (i.zero, i.size, i.bytes)) = some (some (.int .i64 0), 1, 8) := by kernel_rfl
theorem ints_one (l : List Int) : ∀ u ∈ nums .i64 l, u.oneCell' = true := by
  intro u hu
  obtain ⟨x, _, rfl⟩ := List.mem_map.1 hu
  rfl
theorem C_cells {k : IntKind} {w : World} {A : Option Addr} {l : List Int} (h : Kd.C (Kd.int k) w A l.length l) {ad : Addr} (hA : A = some ad) (j : Nat) (u : Value) (hu : (nums k l)[j]? = some u) : w.cell? (ad.add j) = some u := by
  rw [show nums k l = l.map (Value.int k) from rfl, List.getElem?_map] at hu
  obtain ⟨x, hx, rfl⟩ := Option.map_eq_some_iff.1 hu
  have hj := (List.getElem?_eq_some_iff.1 hx).1
  obtain ⟨ad', e, hc⟩ := Kd.at_int h j (by omega) (by omega)
  rw [hA] at e
  injection e with e
  subst e
  rw [Int.toNat_natCast] at hc
  rw [hc]
  congr 2
  unfold YtkfgkefkmofdcaaW.PrintWords.rd
  rw [Int.toNat_natCast, List.getD_eq_getElem?_getD, hx]; rfl
theorem C_none {k : IntKind} {w : World} {l : List Int} (h : Kd.C (Kd.int k) w none l.length l) : l = [] := by
  rcases Nat.eq_zero_or_pos l.length with h0 | h0
  · exact List.length_eq_zero_iff.1 h0
  · obtain ⟨ad, had, _⟩ := h.2.2 h0
    cases had
theorem R_ints {k : IntKind} {w : World} {base e : Nat} {v : Value} {l : List Int} (ho : w.ownsRow base e 1 v l.length (nums k l)) : Kd.R (Kd.int k) e w base (fun _ => True) v l := by
  refine ⟨fun _ _ => trivial, nums k l, ho, ?_⟩
  refine ⟨by rw [show nums k l = l.map (Value.int k) from rfl, List.length_map]; exact (Nat.mul_one _).symm, fun j p hj => ?_⟩
  have hjl := (List.getElem?_eq_some_iff.1 hj).1
  show (((nums k l).drop (j * 1)).take 1) = [Value.int k p]
  rw [Nat.mul_one, show nums k l = l.map (Value.int k) from rfl, ← List.map_drop, List.drop_eq_getElem_cons hjl]
  have : l[j] = p := by
    have := List.getElem?_eq_getElem hjl
    rw [hj] at this
    exact (Option.some.inj this).symm
  rw [this]; rfl

set_option maxHeartbeats 1000000 in
/-- slices.Clone of numbers: the same numbers in a row of the call's own. -/
theorem clone_ints (A : Option Addr) (c : Nat) (l : List Int) (w : World) (hr : Kd.C (Kd.int .i64) w A l.length l) (hbig : l.length * 8 ≤ 140737488355328) :
    Calls Try.prog 43 #[.slice A l.length c] w fun e w' => ∃ v, e = .returned v ∧ w'.ownsRow w.heap.size 3 1 v l.length (nums .i64 l) ∧ Below w.heap.size w w' := by
  cases A with
  | none =>
    have h0 := C_none hr
    subst h0
    refine (Try.slices_Clone_int_nil 0 c w).mono ?_
    rintro e w' ⟨rfl, rfl⟩
    exact ⟨_, rfl, ⟨rfl, .inl ⟨rfl, rfl⟩⟩, Below.refl _ _⟩
  | some ad =>
    obtain ⟨i0, hi, hz0, hz1, hz2⟩ := info_parts info3
    have u22 : ∀ w, Sem.run Try.prog (underlying 22) w = .ok (TypeDesc.slice 3) w := run_underlying Try.underlying22
    have q22 : ∀ (w : World) (a : Option Addr) (n c n' c' : Nat), (binOp .eql 22 (.slice a n c) (.slice none n' c')).run Try.prog w = .ok (.bool a.isNone) w := fun w a n c n' c' => Lib.run_eql_slice_nil w _ _ a n c n' c' Try.underlying22
    have HA := Lib.hid (C_cells hr rfl)
    clear hr
    have hnl : (nums .i64 l).length = l.length := List.length_map ..
    have hm : l.length ≤ maxLen := by unfold maxLen; omega
    have HN := Lib.hid hnl
    clear hnl
    go_enter Try.func43, Try.ntmps43
    go_wp2_with (at_builtin; refine wpList_append_own _ rfl _ _ 22 rfl w.heap.size 3 i0 (.int .i64 0) 1 8 Try.underlying22 hi hz0 hz1 hz2 rfl (by decide) _ _ _ rfl (World.ownsRow_made w #[] 0 (Nat.le_refl _) (Nat.zero_le _) (by simp)) ad l.length c (nums .i64 l) rfl ?qc1 ?qc2 ?qc3 ?qc4 ?qc5 ?qc6 ?_)
    case qc1 => rw [HN.out]; simp
    case qc2 =>
      intro j u hj
      exact Lib.cell?_alloc_some _ (HA.out j u hj)
    case qc3 => exact ints_one l
    case qc4 => rw [Nat.zero_add]; exact hm
    case qc5 => rw [Nat.zero_add]; exact hbig
    case qc6 => simp
    intro v' w1 hown hgrow hnil
    go_wp2
    go_ret
    refine ⟨v', rfl, by simpa using hown, ?_⟩
    exact ((Below.refl _ w).alloc (Nat.le_refl _) _).grown hgrow (by simp) (by intro k hk; simp [Value.ownBlock] at hk; omega)

theorem putCells_take (d : List Int) (cur : Array Value) (n m : Nat) (hd : d.length = n) (hm : m ≤ n) (hc : n ≤ cur.size) : (putCells (Value.int .i64) 0 d.toArray cur).toList.take m = nums .i64 (d.take m) := by
  apply List.ext_getElem?
  intro j
  rcases Nat.lt_or_ge j m with hj | hj
  · rw [List.getElem?_take_of_lt hj, Array.getElem?_toList]
    have hjc : j < cur.size := by omega
    have hjs : j < d.toArray.size := by simp; omega
    simp only [putCells, Array.getElem?_mapIdx]
    rw [Array.getElem?_eq_getElem hjc]
    simp only [Option.map_some, Nat.zero_le, true_and, Nat.zero_add, Nat.sub_zero, hjs, if_true]
    rw [getElem!_pos _ j hjs, show nums .i64 (d.take m) = (d.take m).map (Value.int .i64) from rfl, List.getElem?_map, List.getElem?_take_of_lt hj]
    simp only [List.size_toArray] at hjs
    rw [List.getElem?_eq_getElem hjs]
    simp
  · rw [List.getElem?_eq_none (by simp; omega), List.getElem?_eq_none (by rw [show nums .i64 (d.take m) = (d.take m).map (Value.int .i64) from rfl]; simp; omega)]
theorem heap_putRow (w : World) (q blk : Nat) (d : Array Int) (k : Nat) (hne : k ≠ blk) : (putRow (Value.int .i64) (Sort.ahead w q) blk 0 d).heap[k]? = w.heap[k]? := by
  unfold putRow mapBlock
  simp only [heap_ahead, Array.getElem?_modify]
  rw [if_neg (by omega)]
theorem heap_putRow_at (w : World) (q blk : Nat) (d : Array Int) {cur : Array Value} {e : TypeId} {fr : Nat × Nat} (hb : w.heap[blk]? = some (.cells cur e fr)) : (putRow (Value.int .i64) (Sort.ahead w q) blk 0 d).heap[blk]? = some (.cells (putCells (Value.int .i64) 0 d cur) e fr) := by
  unfold putRow mapBlock
  simp only [heap_ahead, Array.getElem?_modify, if_true, hb, Option.map_some, onCells]
theorem size_putRow (w : World) (q blk : Nat) (d : Array Int) : (putRow (Value.int .i64) (Sort.ahead w q) blk 0 d).heap.size = w.heap.size := by simp [putRow, mapBlock]
theorem holds_own {w : World} {base e g cap : Nat} {l : List Int} (ho : w.ownsRow base e 1 (.slice (some ⟨g, 0, none⟩) l.length cap) l.length (nums .i64 l)) : Holds (Value.int .i64) w g 0 l.toArray := by
  rcases ho.2 with ⟨h1, _⟩ | ⟨g', cap', cur, he, hbg, hg, hnc, hcm, hcs, hct⟩
  · cases h1
  · injection he with he _ _
    injection he with he
    injection he with he
    subst he
    intro j hj
    have hj' : j < l.length := by simpa using hj
    rw [Nat.zero_add]
    refine ⟨?_, ?_⟩
    · rw [cell_of_row w g j cur _ _ hg]
      have h1 : (cur.toList.take (l.length * 1))[j]? = (nums .i64 l)[j]? := by rw [hct]
      rw [Nat.mul_one, List.getElem?_take_of_lt hj'] at h1
      rw [← Array.getElem?_toList, h1, show nums .i64 l = l.map (Value.int .i64) from rfl, List.getElem?_map, getElem!_pos l.toArray j hj, List.getElem?_eq_getElem hj']
      simp
    · simp [World.frozen?, hg]

/-- The numbers of a list, rising, once each. -/
def sortS (l : List Int) : List Int := l.mergeSort fun x y => decide (x ≤ y)
def syms (l : List Int) : List Int := Lib.compact (sortS l)
theorem sortS_length (l : List Int) : (sortS l).length = l.length := List.length_mergeSort _
theorem sort_ints (w : World) (base : Nat) (v : Value) (l : List Int) (hown : w.ownsRow base 3 1 v l.length (nums .i64 l)) (hsz : l.length < 4611686018427387904) :
    Calls Try.prog 44 #[v] w fun e w' => e = .returned (.tuple #[]) ∧ w'.ownsRow base 3 1 v (sortS l).length (nums .i64 (sortS l)) ∧ w.grownBy w' v.ownBlock := by
  rcases hown.2 with ⟨rfl, h0⟩ | ⟨g, cap, cur, rfl, hbg, hg, hnc, hcm, hcs, hct⟩
  · have : l = [] := List.length_eq_zero_iff.1 h0
    subst this
    refine (Try.slices_Sort_int_none none 0 w).mono ?_
    rintro e w' ⟨rfl, rfl⟩
    have hz : sortS [] = [] := List.length_eq_zero_iff.1 (by rw [sortS_length]; rfl)
    exact ⟨rfl, by rw [hz]; exact hown, ⟨rfl, rfl, rfl, Nat.le_refl _, fun _ _ _ => rfl⟩⟩
  · have hgl : g < w.heap.size := (Array.getElem?_eq_some_iff.1 hg).1
    refine (Try.slices_Sort_int g 0 cap l w (holds_own hown) hgl hsz).mono ?_
    rintro e w' ⟨rfl, n, os, rfl⟩
    change _ = _ ∧ (grow (putRow (Value.int .i64) (Sort.ahead w n) g 0 (sortS l).toArray) os).ownsRow _ _ _ _ _ _ ∧ _
    have hl := sortS_length l
    refine ⟨rfl, ?_, rfl, rfl, rfl, by simp [grow, putRow, mapBlock], fun k hk hne => ?_⟩
    · rw [hl]
      refine ⟨by rw [show nums .i64 (sortS l) = (sortS l).map (Value.int .i64) from rfl, List.length_map, hl, Nat.mul_one], .inr ⟨g, cap, putCells (Value.int .i64) 0 (sortS l).toArray cur, rfl, hbg, ?_, hnc, hcm, by simp [putCells]; simpa using hcs, ?_⟩⟩
      · rw [heap_grow_old _ _ (by rw [size_putRow]; exact hgl)]
        exact heap_putRow_at _ _ _ _ hg
      · rw [Nat.mul_one, putCells_take (sortS l) cur l.length l.length hl (Nat.le_refl _) (by omega), List.take_of_length_le (by omega)]
    · rw [heap_grow_old _ _ (by rw [size_putRow]; exact hk)]
      exact heap_putRow _ _ _ _ _ (fun e => hne (by simp [Value.ownBlock, e]))
theorem compact_le (l : List Int) : (Lib.compact l).length ≤ l.length := by
  unfold Lib.compact Lib.compactUpTo
  rw [List.length_map]
  exact Nat.le_trans (List.length_filter_le _ _) (by simp)
theorem compact_mem (l : List Int) (x : Int) : x ∈ Lib.compact l ↔ x ∈ l := by
  unfold Lib.compact Lib.compactUpTo
  rw [List.mem_map]
  constructor
  · rintro ⟨j, hj, rfl⟩
    have hj := List.mem_range.1 (List.mem_filter.1 hj).1
    rw [getElem!_pos l.toArray j (by simpa using hj)]
    simp
  · intro hx
    obtain ⟨j, hj, rfl⟩ := List.mem_iff_getElem.1 hx
    have key : ∀ j, (hj : j < l.length) → ∃ i, i ≤ j ∧ Lib.keeps l.toArray i = true ∧ l.toArray[i]! = l[j] := by
      intro j
      induction j with
      | zero => intro hj; exact ⟨0, Nat.le_refl _, by simp [Lib.keeps], by rw [getElem!_pos l.toArray 0 (by simpa using hj)]; simp⟩
      | succ j ih =>
        intro hj
        by_cases he : l.toArray[j + 1]! = l.toArray[j]!
        · obtain ⟨i, h1, h2, h3⟩ := ih (by omega)
          refine ⟨i, by omega, h2, h3.trans ?_⟩
          rw [getElem!_pos l.toArray (j + 1) (by simpa using hj), getElem!_pos l.toArray j (by simp; omega)] at he
          simpa using he.symm
        · exact ⟨j + 1, Nat.le_refl _, Lib.keeps_pos (by simpa using he), by rw [getElem!_pos l.toArray (j + 1) (by simpa using hj)]; simp⟩
    obtain ⟨i, h1, h2, h3⟩ := key j hj
    exact ⟨i, List.mem_filter.2 ⟨List.mem_range.2 (by omega), h2⟩, h3⟩
theorem syms_mem (l : List Int) (x : Int) : x ∈ syms l ↔ x ∈ l := by
  unfold syms
  rw [compact_mem]
  unfold sortS
  exact List.mem_mergeSort
theorem compact_ints (w : World) (base : Nat) (v : Value) (l : List Int) (hown : w.ownsRow base 3 1 v l.length (nums .i64 l)) :
    Calls Try.prog 45 #[v] w fun e w' => ∃ v', e = .returned v' ∧ w'.ownsRow base 3 1 v' (Lib.compact l).length (nums .i64 (Lib.compact l)) ∧ w.grownBy w' v.ownBlock ∧ v'.ownBlock = v.ownBlock := by
  rcases hown.2 with ⟨rfl, h0⟩ | ⟨g, cap, cur, rfl, hbg, hg, hnc, hcm, hcs, hct⟩
  · have : l = [] := List.length_eq_zero_iff.1 h0
    subst this
    refine (Try.slices_Compact_int_empty none 0 w).mono ?_
    rintro e w' ⟨rfl, rfl⟩
    exact ⟨_, rfl, hown, ⟨rfl, rfl, rfl, Nat.le_refl _, fun _ _ _ => rfl⟩, rfl⟩
  · have hcm' : cap ≤ 9223372036854775807 := by simpa [maxLen] using hcm
    have hle := compact_le l
    refine (Try.slices_Compact_int g 0 cap l w (holds_own hown) (by omega) hnc).mono ?_
    rintro e w' ⟨rfl, q, rfl⟩
    have hl : (Lib.compact l ++ List.replicate (l.length - (Lib.compact l).length) 0).length = l.length := by simp; omega
    refine ⟨_, rfl, ⟨by rw [show nums .i64 (Lib.compact l) = (Lib.compact l).map (Value.int .i64) from rfl, List.length_map, Nat.mul_one], .inr ⟨g, cap, _, rfl, hbg, heap_putRow_at _ _ _ _ hg, by omega, hcm, by simp [putCells]; simpa using hcs, ?_⟩⟩, ⟨rfl, rfl, rfl, by simp [putRow, mapBlock], fun k hk hne => heap_putRow _ _ _ _ _ (fun e => hne (by simp [Value.ownBlock, e]))⟩, rfl⟩
    rw [Nat.mul_one, putCells_take _ cur l.length (Lib.compact l).length hl hle (by omega), List.take_left]
theorem own_form {w : World} {base : Nat} {e : TypeId} {v : Value} {n : Nat} {xs : List Value} (h : w.ownsRow base e 1 v n xs) :
    ∃ A c, v = .slice A n c ∧ (∀ ad, A = some ad → base ≤ ad.block ∧ ad.block < w.heap.size ∧ ∀ j u, xs[j]? = some u → w.cell? (ad.add j) = some u) ∧ (A = none → n = 0) ∧ n ≤ c := by
  rcases h.2 with ⟨rfl, h0⟩ | ⟨g, cap, cur, rfl, hbg, hg, hnc, hcm, hcs, hct⟩
  · exact ⟨none, 0, by rw [h0], (fun ad e => by cases e), fun _ => h0, by omega⟩
  · refine ⟨_, cap, rfl, fun ad e => ?_, (fun e => by cases e), hnc⟩
    injection e with e
    subst e
    refine ⟨hbg, (Array.getElem?_eq_some_iff.1 hg).1, fun j u hu => ?_⟩
    rw [add_plain, cell_of_row w g j cur _ _ hg, ← Array.getElem?_toList]
    rw [← hct] at hu
    rcases Nat.lt_or_ge j (n * 1) with hj | hj
    · rwa [List.getElem?_take_of_lt hj] at hu
    · rw [List.getElem?_eq_none (by simp; omega)] at hu; cases hu

theorem info36 : (Try.prog.info? 36).map (fun i => (i.zero, i.size, i.bytes)) = some (some (.int .u64 0), 1, 8) := by kernel_rfl
end Go.Proofs.Ytkfgkefkmofdcaa.Man
