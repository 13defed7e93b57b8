/- bytes.Clone, and names.Sort: the tokens that there are, once each, rising. -/
import Derived.Test.YtnaicfffplnebaaNamesC
namespace Go.Proofs.Ytnaicfffplnebaa.Man
open Go.RowKit Go.Sort Go.Lib Go.Proofs.YtnaicfffplnebaaW.PrintWords Go.Proofs.YtnaicfffplnebaaW.PrintLast Go.Proofs.YtnaicfffplnebaaW.PrintMore

/-- bytes.Clone: the same bytes in a row of the call's own. -/
theorem bytes_Clone_own (A : Option Addr) (c : Nat) (x : List Int) (w : World) (hC : Kd.C (Kd.int .u8) w A x.length x) (hbig : x.length ≤ 140737488355328) :
    Calls Try.prog 28 #[.slice A x.length c] w fun e w' => ∃ v', e = .returned v' ∧ w'.ownsRow w.heap.size 5 1 v' x.length (nums .u8 x) ∧ Below w.heap.size w w' := by
  cases A with
  | none =>
    have h0 : x = [] := by
      rcases x with _ | ⟨a, x⟩
      · rfl
      · obtain ⟨ad, had, _⟩ := Kd.at_int hC 0 (by omega) (by simp)
        cases had
    subst h0
    refine (Any.bytes_Clone_nil Try.laysSlK4 0 c w).mono ?_
    rintro e w' ⟨rfl, rfl⟩
    exact ⟨_, rfl, ⟨rfl, .inl ⟨rfl, rfl⟩⟩, Below.refl _ _⟩
  | some a =>
    refine (Any.bytes_Clone_at Try.laysSlK4 a x.length c x w rfl hbig (fun i hi => ?_)).mono ?_
    · obtain ⟨ad, had, hc⟩ := Kd.at_int hC i (by omega) (by omega)
      cases had
      rw [Int.toNat_natCast] at hc
      rw [hc]
      unfold Go.Proofs.YtnaicfffplnebaaW.PrintWords.rd
      rw [Int.toNat_natCast]
    · rintro e w' ⟨v', rfl, ho, _, hb⟩
      exact ⟨v', rfl, ho, hb⟩
def bytes_Clone.f (l0 : List Int) : Option (List Int) := if l0.length ≤ 140737488355328 then some l0 else none
theorem bytes_Clone.calls (A0 : Option Addr) (c0 : Nat) (l0 : List Int) (r : List Int) (w : World) (hr0 : Kd.C (Kd.int .u8) w A0 l0.length l0) (_hc0 : l0.length ≤ c0) (h : bytes_Clone.f l0 = some r) :
    Calls Try.prog 28 #[.slice A0 l0.length c0] w fun e w' => ∃ v0_ : Value, e = .returned (v0_) ∧ Kd.R (Kd.int .u8) 5 w' w.heap.size (fun _ => True) v0_ r ∧ Below w.heap.size w w' := by
  unfold bytes_Clone.f at h
  split at h
  · rename_i hb
    injection h with h
    subst h
    refine (bytes_Clone_own A0 c0 l0 w hr0 hb).mono ?_
    rintro e w' ⟨v', rfl, ho, hb⟩
    exact ⟨v', rfl, Kd.R_of_own ho (fun _ _ => trivial), hb⟩
  · cases h

/-- slices.CompactFunc over a row of the call's own. -/
theorem compact_own {w0 : World} (w : World) (hold : ∀ k, k < w0.heap.size → w.heap[k]? = w0.heap[k]?) (base : Nat) (hb : w0.heap.size ≤ base) (v : Value) (d : List (TokV w0))
    (hown : w.ownsRow base 24 1 v d.length (d.map TokV.v)) :
    Calls Try.prog 26 #[v, .func (.func 27) #[] #[]] w fun e w' => ∃ v', e = .returned v' ∧
      w'.ownsRow base 24 1 v' (compB sameV d.toArray d.length).length ((compB sameV d.toArray d.length).map TokV.v) ∧ w.grownBy w' v.ownBlock ∧ v'.ownBlock = v.ownBlock := by
  rcases hown.2 with ⟨rfl, h0⟩ | ⟨g, cap, cur, rfl, hbg, hg, hnc, hcm, hcs, hct⟩
  · have : d = [] := List.length_eq_zero_iff.1 h0
    subst this
    have HO := Lib.hid hown
    clear hown hold
    go_enter Try.func26, Try.ntmps26
    go_wp2
    go_ret
    exact ⟨_, rfl, HO.out, ⟨rfl, rfl, rfl, Nat.le_refl _, fun _ _ _ => rfl⟩, rfl⟩
  · have hget : ∀ j, j < d.length → cur[j]? = some (d.toArray[j]!).v := by
      intro j hj
      have h1 : (cur.toList.take (d.length * 1))[j]? = (d.map TokV.v)[j]? := by rw [hct]
      rw [Nat.mul_one, List.getElem?_take_of_lt hj] at h1
      rw [← Array.getElem?_toList, h1, List.getElem?_map, getElem!_pos d.toArray j (by simpa using hj), List.getElem?_eq_getElem hj]
      simp
    have hH : Holds TokV.v w g 0 d.toArray := by
      intro j hj
      have hj' : j < d.length := by simpa using hj
      rw [Nat.zero_add]
      refine ⟨?_, ?_⟩
      · rw [cell_of_row w g j cur _ _ hg]
        exact hget j hj'
      · simp [World.frozen?, hg]
    have hcm' : cap ≤ 9223372036854775807 := by simpa [maxLen] using hcm
    have hds : d.toArray.size = d.length := by simp
    have hc := compact_tt g cap d.toArray w (by omega) hold hH (by omega) (by omega)
    rw [hds] at hc
    refine hc.mono ?_
    rintro e w' ⟨rfl, q, rfl⟩
    have hrl : (compB sameV d.toArray d.length).length ≤ d.length := by
      unfold compB
      rw [List.length_map]
      exact Nat.le_trans (List.length_filter_le _ _) (by simp)
    have hblk : (putRow TokV.v (Sort.ahead w q) g 0 (compB sameV d.toArray d.length ++ List.replicate (d.length - (compB sameV d.toArray d.length).length) default).toArray).heap[g]? = some (.cells (putCells TokV.v 0 (compB sameV d.toArray d.length ++ List.replicate (d.length - (compB sameV d.toArray d.length).length) default).toArray cur) 24 (0, 0)) := by
      unfold putRow mapBlock
      simp only [heap_ahead, Array.getElem?_modify, if_true, hg, Option.map_some, onCells]
    refine ⟨_, rfl, ⟨by simp, .inr ⟨g, cap, _, rfl, hbg, hblk, by omega, hcm, by simp [putCells]; simpa using hcs, ?_⟩⟩, ?_, rfl⟩
    · generalize compB sameV d.toArray d.length = r at hrl
      apply List.ext_getElem?
      intro j
      rcases Nat.lt_or_ge j r.length with hj | hj
      · rw [Nat.mul_one, List.getElem?_take_of_lt hj, Array.getElem?_toList]
        have hjc : j < cur.size := by have := hcs; omega
        have hjs : j < (r ++ List.replicate (d.length - r.length) default).toArray.size := by simp; omega
        simp only [putCells, Array.getElem?_mapIdx]
        rw [Array.getElem?_eq_getElem hjc]
        simp only [Option.map_some, Nat.zero_le, true_and, Nat.zero_add, Nat.sub_zero, hjs, if_true]
        rw [getElem!_pos _ j hjs, List.getElem?_map, List.getElem?_eq_getElem hj]
        simp [List.getElem_append_left hj]
      · rw [List.getElem?_eq_none (by simp; omega), List.getElem?_eq_none (by simp; omega)]
    · refine ⟨rfl, rfl, rfl, by simp [putRow, mapBlock], fun k hk hne => ?_⟩
      unfold putRow mapBlock
      simp only [heap_ahead, Array.getElem?_modify]
      rw [if_neg (fun e => hne (by simp [Value.ownBlock, e]))]

/-! ### names.Sort -/
/-- What stands when i tokens have been copied: the source reads as it did; the first i places of the new row hold copies. -/
structure SR (w wr : World) (A : Option Addr) (us : List Value) (gd : Nat) (xs : List (List Int)) (i : Nat) : Prop where
  below : RowKit.Below w.heap.size w wr
  src : ∀ ad, A = some ad → ∀ j u, us[j]? = some u → wr.cell? (ad.add j) = some u
  dst : ∃ (cs : List Value) (f : Nat → Nat), wr.ownsRow w.heap.size 24 1 (.slice (some ⟨gd, 0, none⟩) xs.length xs.length) xs.length cs ∧
    (∀ j, j < i → ∃ v, cs[j]? = some v ∧ wr.ownsRow w.heap.size 5 1 v (xs.getD j []).length (nums .u8 (xs.getD j [])) ∧ v.ownBlock ≠ some gd ∧ ∀ k, v.ownBlock = some k → f k = j) ∧
    ∀ j, i ≤ j → j < xs.length → cs[j]? = some (.slice none 0 0)
theorem SR.lt {w wr : World} {A : Option Addr} {us : List Value} {gd : Nat} {xs : List (List Int)} {i : Nat} (h : SR w wr A us gd xs i) : gd < wr.heap.size := by
  obtain ⟨cs, f, ho, _⟩ := h.dst
  exact own_lt ho gd rfl
theorem SR.cell {w wr w1 : World} {A : Option Addr} {us : List Value} {gd : Nat} {xs : List (List Int)} {i : Nat} (h : SR w wr A us gd xs i) (hi : i < xs.length) (hb : RowKit.Below wr.heap.size wr w1) :
    w1.cell? ⟨gd, i, none⟩ = some (.slice none 0 0) ∧ w1.frozen? ⟨gd, i, none⟩ = false := by
  obtain ⟨cs, f, ho, _, hz⟩ := h.dst
  have hlt := h.lt
  rcases ho.2 with ⟨he, _⟩ | ⟨g, cap, cur, he, hbg, hg, hnc, hcm, hcs, hct⟩
  · injection he with he; cases he
  · injection he with he
    injection he with he
    injection he with he
    subst he
    have hg1 := (hb.block gd hlt).trans hg
    refine ⟨?_, by simp [World.frozen?, hg1]⟩
    rw [cell_of_row w1 gd i cur _ _ hg1, ← Array.getElem?_toList]
    have := hz i (Nat.le_refl _) hi
    rw [← hct, Nat.mul_one, List.getElem?_take_of_lt hi] at this
    exact this
theorem SR.step {w wr w1 : World} {A : Option Addr} {us : List Value} {gd : Nat} {xs : List (List Int)} {i : Nat} (h : SR w wr A us gd xs i) (hi : i < xs.length) (hA : ∀ ad, A = some ad → ad.block ≠ gd) {v : Value}
    (ho1 : w1.ownsRow wr.heap.size 5 1 v (xs.getD i []).length (nums .u8 (xs.getD i []))) (hb : RowKit.Below wr.heap.size wr w1) : SR w (w1.setCell ⟨gd, i, none⟩ v) A us gd xs (i + 1) := by
  have hlt := h.lt
  obtain ⟨cs, f, ho, hd, hz⟩ := h.dst
  have hwg : w.heap.size ≤ gd := own_base ho gd rfl
  have hb1 : RowKit.Below w.heap.size w w1 := h.below.trans (hb.mono h.below.size)
  have hv : v.ownBlock ≠ some gd := fun e => by have := own_base ho1 gd e; omega
  refine ⟨hb1.setCell (by exact hwg) v, ?_, ?_⟩
  · intro ad e j u hu
    have h1 := h.src ad e j u hu
    rw [World.cell?_setCell_other _ _ _ _ (by
      intro e2
      have := hA ad e
      have h3 : (ad.add j).block = gd := by rw [← e2]
      have h4 : (ad.add j).block = ad.block := by unfold Addr.add; split <;> rfl
      omega)]
    rw [hb.cell (World.block_lt_of_cell? wr _ h1)]
    exact h1
  · rcases ho.2 with ⟨he, _⟩ | ⟨g, cap, cur, he, hbg, hg, hnc, hcm, hcs, hct⟩
    · injection he with he; cases he
    · injection he with he1 he2 he3
      injection he1 with he1
      injection he1 with he1
      subst he1
      subst he3
      have hg1 := (hb.block gd hlt).trans hg
      have hcl : cs.length = xs.length := by have := ho.1; omega
      refine ⟨cs.set i v, fun k => if v.ownBlock = some k then i else f k, ⟨by simp [hcl], .inr ⟨gd, xs.length, cur.setIfInBounds i v, rfl, hbg, blk_set hg1 i v, hnc, hcm, by simpa using hcs, ?_⟩⟩, ?_, ?_⟩
      · rw [Array.toList_setIfInBounds, ← hct, List.take_set]
      · intro j hj
        by_cases e : j = i
        · subst e
          exact ⟨v, by rw [List.getElem?_set_self (by omega)], own_setCell (own_weaken ho1 h.below.size) (fun e => hv e.symm) v, hv, fun k hk => by simp [hk]⟩
        · obtain ⟨u, hu, hou, hne, hf⟩ := hd j (by omega)
          exact ⟨u, by rw [List.getElem?_set_ne (by omega)]; exact hu, own_setCell (pw_own_below hou hb) (fun e => hne e.symm) v, hne, fun k hk => by
            have hklt := own_lt hou k hk
            have : v.ownBlock ≠ some k := fun e => by have := own_base ho1 k e; omega
            simp [this, hf k hk]⟩
      · intro j hj hjx
        rw [List.getElem?_set_ne (by omega)]
        exact hz j (by omega) hjx
theorem SR.done {w wr : World} {A : Option Addr} {us : List Value} {gd : Nat} {xs : List (List Int)} (h : SR w wr A us gd xs xs.length) :
    Kd.S (Kd.slice 5 (Kd.int .u8)) 24 wr w.heap.size (fun _ => True) (.slice (some ⟨gd, 0, none⟩) xs.length xs.length) xs := by
  obtain ⟨cs, f, ho, hd, _⟩ := h.dst
  have hcl : cs.length = xs.length := by have := ho.1; omega
  refine ⟨f, fun _ _ => trivial, cs, by rw [List.length_zipIdx]; exact ho, ?_, ?_⟩
  · rw [hcl, List.length_zipIdx]; exact (Nat.mul_one _).symm
  · rintro j ⟨x, q⟩ hx
    rw [List.getElem?_zipIdx, Nat.zero_add] at hx
    obtain ⟨y, hy, e⟩ := Option.map_eq_some_iff.1 hx
    injection e with e1 e2
    subst e1 e2
    have hj : j < xs.length := (List.getElem?_eq_some_iff.1 hy).1
    obtain ⟨v, hv, hov, hne, hf⟩ := hd j hj
    have hxd : xs.getD j [] = y := by rw [List.getD_eq_getElem?_getD, hy]; rfl
    rw [hxd] at hov
    refine ⟨v, ?_, Kd.R_of_own hov (fun k hk => ⟨⟨trivial, fun e => hne (hk.trans e)⟩, hf k hk⟩)⟩
    show (cs.drop (j * 1)).take 1 = [v]
    have hjc : j < cs.length := by omega
    rw [Nat.mul_one, List.drop_eq_getElem_cons hjc, List.take_succ_cons, List.take_zero]
    rw [List.getElem?_eq_getElem hjc] at hv
    injection hv with hv
    rw [hv]
theorem SR.start {w w3 : World} {A : Option Addr} {us : List Value} {xs : List (List Int)} (hb : RowKit.Below w.heap.size w w3) (hA : ∀ ad, A = some ad → ∀ j u, us[j]? = some u → w3.cell? (ad.add j) = some u) (hm : xs.length ≤ maxLen) :
    SR w (w3.alloc (.cells (madeCells #[.slice none 0 0] xs.length) 24)) A us w3.heap.size xs 0 := by
  have ho := own_made_of (enc := fun v : Value => v) (d := Value.slice none 0 0) w3 w.heap.size 24 xs.length hb.size (by simpa [maxLen] using hm)
  refine ⟨hb.alloc hb.size _, fun ad e j u hu => Lib.cell?_alloc_some _ (hA ad e j u hu), _, fun _ => 0, ho, fun j hj => absurd hj (Nat.not_lt_zero _), fun j _ hj => ?_⟩
  simp [encs, hj]

theorem mem_compB {α : Type} [Inhabited α] {q : α → α → Bool} {d : List α} {y : α} (h : y ∈ compB q d.toArray d.length) : y ∈ d := by
  unfold compB at h
  obtain ⟨j, hj, rfl⟩ := List.mem_map.1 h
  have hj' := List.mem_range.1 (List.mem_filter.1 hj).1
  rw [getElem!_pos d.toArray j (by simpa using hj')]
  simp
/-- What names.Sort keeps of a row: sorted, then compacted. -/
theorem own_form {w : World} {base : Nat} {e : TypeId} {v : Value} {n : Nat} {xs : List Value} (h : w.ownsRow base e 1 v n xs) :
    ∃ A c, v = .slice A n c ∧ (∀ ad, A = some ad → base ≤ ad.block ∧ ad.block < w.heap.size ∧ ∀ j u, xs[j]? = some u → w.cell? (ad.add j) = some u) ∧ (A = none → n = 0) ∧ n ≤ c := by
  rcases h.2 with ⟨rfl, h0⟩ | ⟨g, cap, cur, rfl, hbg, hg, hnc, hcm, hcs, hct⟩
  · exact ⟨none, 0, by rw [h0], (fun ad e => by cases e), fun _ => h0, by omega⟩
  · refine ⟨_, cap, rfl, fun ad e => ?_, (fun e => by cases e), hnc⟩
    injection e with e
    subst e
    refine ⟨hbg, (Array.getElem?_eq_some_iff.1 hg).1, fun j u hu => ?_⟩
    rw [add_plain, cell_of_row w g j cur _ _ hg, ← Array.getElem?_toList]
    rw [← hct] at hu
    rcases Nat.lt_or_ge j (n * 1) with hj | hj
    · rwa [List.getElem?_take_of_lt hj] at hu
    · rw [List.getElem?_eq_none (by simp; omega)] at hu; cases hu

set_option maxHeartbeats 4000000 in
set_option maxRecDepth 100000 in
/-- names.Sort: some rising row of the same tokens, none twice, in new memory. -/
theorem sort_walk (A0 : Option Addr) (c0 : Nat) (l0 : List (List Int)) (w : World) (hr0 : Kd.C (Kd.slice 5 (Kd.int .u8)) w A0 l0.length l0) (hbig : l0.length * 24 ≤ 140737488355328) (hx : ∀ x ∈ l0, x.length ≤ 140737488355328) :
    Calls Try.prog 9 #[.slice A0 l0.length c0] w fun e w' => ∃ v : Value, e = .returned v ∧ ∃ d' : List (TokV w), (d'.map TokV.x).Perm l0 ∧ d'.Pairwise (fun x y => ¬ cmpB (byt y.x) (byt x.x) < 0) ∧
      Kd.S (Kd.slice 5 (Kd.int .u8)) 24 w' w.heap.size (fun _ => True) v ((compB sameV d'.toArray d'.length).map TokV.x) ∧ RowKit.Below w.heap.size w w' := by
  obtain ⟨d, hdx, hdv⟩ := toks_of_C hr0
  have hdl : d.length = l0.length := by rw [← hdx]; simp
  have hcl := clone_tt A0 c0 (d.map TokV.v) w hdv (fun hA => by
      have : l0.length = 0 := by
        rcases Nat.eq_zero_or_pos l0.length with h | h
        · exact h
        · obtain ⟨ad, had, _⟩ := hr0.2.2 h
          rw [hA] at had; cases had
      have : d = [] := List.length_eq_zero_iff.1 (by omega)
      rw [this]; rfl) (fun u hu => by obtain ⟨p, _, rfl⟩ := List.mem_map.1 hu; exact p.one) (by rw [List.length_map, hdl]; exact hbig)
  rw [List.length_map, hdl] at hcl
  have hlen : d.length < 4611686018427387904 := by omega
  have HX : Hid (∀ p ∈ d, p.x.length ≤ 140737488355328) := fun p hp => hx p.x (by rw [← hdx]; exact List.mem_map_of_mem hp)
  have HCL := Lib.hid hcl
  have HDX := Lib.hid hdx
  have HDL := Lib.hid hdl
  have HBIG := Lib.hid hbig
  clear hcl hr0 hdv hdx hdl hx hbig
  go_enter Try.func9, Try.ntmps9
  go_wp2_with (first
    | (go_at_call 23; refine HCL.out.mono ?_; rintro e w1 ⟨v1, rfl, own1, b1⟩; clear HCL
       have OWN1 := Lib.hid own1; have B1 := Lib.hid b1; clear own1 b1)
    | (go_at_call 24; refine (sort_tt (w0 := w) w1 B1.out.size (fun k hk => B1.out.block k hk) w.heap.size (Nat.le_refl _) v1 d (by rw [HDL.out]; exact OWN1.out) hlen).mono ?_
       rintro e w2 ⟨rfl, d', hp, hs, own2, g2⟩
       have B2 : Hid (RowKit.Below w.heap.size w w2) := B1.out.grown g2 B1.out.size (fun k hk => own_base OWN1.out k hk)
       have P2 := Lib.hid hp; have S2 := Lib.hid hs; have OWN2 := Lib.hid own2; clear hp hs own2 g2)
    | (go_at_call 26; refine (compact_own (w0 := w) w2 (fun k hk => B2.out.block k hk) w.heap.size (Nat.le_refl _) v1 d' OWN2.out).mono ?_
       rintro e w3 ⟨v3, rfl, own3, g3, _⟩
       have B3 : Hid (RowKit.Below w.heap.size w w3) := B2.out.grown g3 B2.out.size (fun k hk => own_base OWN2.out k hk)
       generalize hcmp : compB sameV d'.toArray d'.length = r at own3
       have R3 := Lib.hid hcmp
       obtain ⟨A, c, rfl, hA, hA0, hlc⟩ := own_form own3
       have HA := Lib.hid hA; have HA0 := Lib.hid hA0
       have hrl : r.length ≤ l0.length := by
         rw [← hcmp]; unfold compB; rw [List.length_map]
         have := P2.out.length_eq; have h5 := HDL.out
         exact Nat.le_trans (List.length_filter_le _ _) (by simp; omega)
       have hn : r.length * 24 ≤ 281474976710656 := by have := HBIG.out; omega
       have hmk := print_make_of (P := Try.prog) 22 24 (.slice none 0 0) 24 Try.underlying22 info24 rfl (by decide) r.length hn
       clear hcmp own3 g3 hA hA0))
  have hrm : r.length ≤ maxLen := by unfold maxLen; omega
  have hst : SR w (w3.alloc (.cells (madeCells #[.slice none 0 0] r.length) 24)) A (r.map TokV.v) w3.heap.size (r.map TokV.x) 0 := by
    have := SR.start (xs := r.map TokV.x) B3.out (fun ad e => (HA.out ad e).2.2) (by rw [List.length_map]; exact hrm)
    rwa [List.length_map] at this
  have hAne : ∀ ad, A = some ad → ad.block ≠ w3.heap.size := fun ad e => by have := (HA.out ad e).2.1; omega
  generalize w3.heap.size = gd at hst hAne
  have ST := Lib.hid hst; have HNE := Lib.hid hAne
  clear hst hAne hmk hn
  have hrm' : r.length ≤ 9223372036854775807 := by simpa [maxLen] using hrm
  go_loopg [18] r.length (fun gg s18 wr => ∃ i : Nat, s18 = .int .i64 i ∧ i ≤ r.length ∧ r.length - i ≤ gg ∧ Hid (SR w wr A (r.map TokV.v) gd (r.map TokV.x) i))
  case atStart => exact ⟨0, rfl, Nat.zero_le _, Nat.le_refl _, ST⟩
  case round =>
    clear ST
    obtain ⟨i, rfl, hi, hgg, HS⟩ := hrel
    by_cases hlt : i < r.length
    · obtain ⟨ad, rfl⟩ : ∃ ad, A = some ad := by
        cases A with
        | none => have := HA0.out rfl; omega
        | some ad => exact ⟨ad, rfl⟩
      have hcell := HS.out.src ad rfl i (r[i]).v (by simp [hlt])
      have hlen1 : r[i].x.length ≤ 140737488355328 := by
        have h1 : r[i] ∈ r := List.getElem_mem hlt
        have h2 : ∀ y, y ∈ r → y ∈ d := fun y hy => P2.out.mem_iff.1 (mem_compB (R3.out ▸ hy))
        exact HX.out _ (h2 _ h1)
      generalize hp : r[i] = p at hcell hlen1
      have HP := Lib.hid hp
      clear hp
      obtain ⟨A1, c1, e1, _, hC1⟩ := p.tok wr (fun k hk => HS.out.below.block k hk)
      rw [e1] at hcell
      have hcl := bytes_Clone_own A1 c1 p.x wr hC1 hlen1
      have HCL := Lib.hid hcl
      clear hcl hC1 e1
      go_wp2_with (first
        | (go_at_call 28; refine HCL.out.mono ?_; rintro e w5 ⟨v5, rfl, ho5, hb5⟩
           have hc5 := HS.out.cell (by rw [List.length_map]; exact hlt) hb5
           obtain ⟨hc5, hf5⟩ := hc5
           obtain ⟨A5, c5, rfl, _, _, _⟩ := own_form ho5
           have HO5 := Lib.hid ho5; have HB5 := Lib.hid hb5
           clear ho5 hb5))
      go_roundg (r.length - (i + 1))
      case measure => omega
      case rel =>
        refine ⟨i + 1, by go_num, by omega, Nat.le_refl _, ?_⟩
        exact HS.out.step (by rw [List.length_map]; exact hlt) HNE.out (by
          have h7 : (r.map TokV.x).getD i [] = p.x := by rw [List.getD_eq_getElem?_getD, List.getElem?_map, List.getElem?_eq_getElem hlt, HP.out]; rfl
          rw [h7]; exact HO5.out) HB5.out
    · obtain rfl : i = r.length := by omega
      go_wp2
      go_ret
      refine ⟨_, rfl, d', ?_, S2.out, ?_, HS.out.below⟩
      · rw [← HDX.out]; exact P2.out.map _
      · rw [R3.out]
        have hd := HS.out
        have h8 : (r.map TokV.x).length = r.length := List.length_map ..
        rw [← h8] at hd ⊢
        exact hd.done
end Go.Proofs.Ytnaicfffplnebaa.Man
