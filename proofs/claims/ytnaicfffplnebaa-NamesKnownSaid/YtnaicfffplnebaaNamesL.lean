/- What the document tells of names: the closed call. -/
import Derived.Test.YtnaicfffplnebaaNamesK
namespace Go.Proofs.Ytnaicfffplnebaa.Man
open Go.RowKit Go.Sort Go.Lib Go.Proofs.YtnaicfffplnebaaW.PrintWords Go.Proofs.YtnaicfffplnebaaW.PrintLast Go.Proofs.YtnaicfffplnebaaW.PrintMore

theorem C_one {k : IntKind} {W : World} {b : Nat} {x : Int} (h : W.cell? ⟨b, 0, none⟩ = some (.int k x)) : Kd.C (Kd.int k) W (some ⟨b, 0, none⟩) 1 [x] := by
  refine ⟨rfl, by omega, fun _ => ⟨_, rfl, fun j p hj => ⟨[.int k p], rfl, rfl, fun i u hu => ?_⟩⟩⟩
  have hj0 : j = 0 := by
    have := (List.getElem?_eq_some_iff.1 hj).1
    simpa using this
  have hi0 : i = 0 := by
    have := (List.getElem?_eq_some_iff.1 hu).1
    simpa using this
  subst hj0 hi0
  have h1 : x = p := by simpa using hj
  have h2 : Value.int k p = u := by simpa using hu
  subst h1 h2
  exact h
theorem C_two {k : IntKind} {W : World} {b : Nat} {x y : Int} (h : W.cell? ⟨b, 0, none⟩ = some (.int k x)) (h' : W.cell? ⟨b, 1, none⟩ = some (.int k y)) : Kd.C (Kd.int k) W (some ⟨b, 0, none⟩) 2 [x, y] := by
  refine ⟨rfl, by omega, fun _ => ⟨_, rfl, fun j p hj => ⟨[.int k p], rfl, rfl, fun i u hu => ?_⟩⟩⟩
  have hj0 : j < 2 := by
    have := (List.getElem?_eq_some_iff.1 hj).1
    simpa using this
  have hi0 : i = 0 := by
    have := (List.getElem?_eq_some_iff.1 hu).1
    simpa using this
  subst hi0
  have h2 : Value.int k p = u := by simpa using hu
  subst h2
  rcases (show j = 0 ∨ j = 1 by omega) with rfl | rfl
  · have h1 : x = p := by simpa using hj
    subst h1
    exact h
  · have h1 : y = p := by simpa using hj
    subst h1
    exact h'
theorem C_toks2 {W : World} {b b0 b1 : Nat} {x y : List Int} {c0 c1 : Nat} (h : W.cell? ⟨b, 0, none⟩ = some (.slice (some ⟨b0, 0, none⟩) x.length c0)) (h' : W.cell? ⟨b, 1, none⟩ = some (.slice (some ⟨b1, 0, none⟩) y.length c1))
    (hc0 : x.length ≤ c0) (hc1 : y.length ≤ c1) (h0 : Kd.C (Kd.int .u8) W (some ⟨b0, 0, none⟩) x.length x) (h1 : Kd.C (Kd.int .u8) W (some ⟨b1, 0, none⟩) y.length y) : Kd.C (Kd.slice 5 (Kd.int .u8)) W (some ⟨b, 0, none⟩) 2 [x, y] := by
  refine ⟨rfl, by omega, fun _ => ⟨_, rfl, fun j p hj => ?_⟩⟩
  have hj0 : j < 2 := by
    have := (List.getElem?_eq_some_iff.1 hj).1
    simpa using this
  rcases (show j = 0 ∨ j = 1 by omega) with rfl | rfl
  · have h2 : x = p := by simpa using hj
    subst h2
    refine ⟨[.slice (some ⟨b0, 0, none⟩) x.length c0], rfl, ⟨_, _, rfl, hc0, h0⟩, fun i u hu => ?_⟩
    have hi0 : i = 0 := by
      have := (List.getElem?_eq_some_iff.1 hu).1
      simpa using this
    subst hi0
    have h2 : Value.slice (some ⟨b0, 0, none⟩) x.length c0 = u := by simpa using hu
    subst h2
    exact h
  · have h2 : y = p := by simpa using hj
    subst h2
    refine ⟨[.slice (some ⟨b1, 0, none⟩) y.length c1], rfl, ⟨_, _, rfl, hc1, h1⟩, fun i u hu => ?_⟩
    have hi0 : i = 0 := by
      have := (List.getElem?_eq_some_iff.1 hu).1
      simpa using this
    subst hi0
    have h2 : Value.slice (some ⟨b1, 0, none⟩) y.length c1 = u := by simpa using hu
    subst h2
    exact h'

/-- What '[]byte(\"..\")' of a constant leaves. -/
def litW (W : World) (cs : Array Value) : World := (W.alloc (.cells cs 5)).freeze ⟨W.heap.size, cs.size, none⟩ 1
theorem litW_size (W : World) (cs : Array Value) : (litW W cs).heap.size = W.heap.size + 1 := by
  simp [litW, World.freeze, World.alloc, -World.alloc_eq]
theorem litW_old (W : World) (cs : Array Value) (k : Nat) (hk : k < W.heap.size) : (litW W cs).heap[k]? = W.heap[k]? := by
  have h1 : W.heap.size ≠ k := by omega
  simp [litW, World.freeze, World.alloc, -World.alloc_eq, Array.getElem?_modify, Array.getElem?_push, h1, Ne.symm h1]
theorem litW_new (W : World) (cs : Array Value) : (litW W cs).heap[W.heap.size]? = some (.cells cs 5 (cs.size, cs.size + 1)) := by
  simp [litW, World.freeze, World.alloc, -World.alloc_eq]
  rw [Array.getElem_modify_self]
  simp
theorem litW_below (W : World) (cs : Array Value) : RowKit.Below W.heap.size W (litW W cs) := ⟨rfl, rfl, rfl, by rw [litW_size]; omega, fun k hk => litW_old W cs k hk⟩
theorem litW_cell (W : World) (cs : Array Value) (j : Nat) : (litW W cs).cell? ⟨W.heap.size, j, none⟩ = cs[j]? := by
  simp [World.cell?, litW_new]
theorem run_lit (W : World) (cs : Array Value) (n c : Nat) : (convert 24 24 (.slice (some ⟨W.heap.size, 0, none⟩) n c)).run Try.prog (W.alloc (.cells cs 5)) = .ok (.slice (some ⟨W.heap.size, 0, none⟩) n c) (litW W cs) := by
  have hsh : (W.alloc (.cells cs 5)).shape? W.heap.size = some (5, cs.size) := by
    simp [World.shape?, World.alloc, -World.alloc_eq]
  simp [convert, run_underlying Try.underlying24, run_underlying Try.underlying5, markStringish, litW, hsh, Result.andThen]

theorem run_lit1 (X : World) (o : Obj) (cs : Array Value) (n c : Nat) : (convert 24 24 (.slice (some ⟨X.heap.size + 1, 0, none⟩) n c)).run Try.prog ((X.alloc o).alloc (.cells cs 5)) = .ok (.slice (some ⟨X.heap.size + 1, 0, none⟩) n c) (litW (X.alloc o) cs) := by
  have h := run_lit (X.alloc o) cs n c
  rwa [World.size_alloc] at h
theorem litW_cell1 (X : World) (o : Obj) (cs : Array Value) (j : Nat) : (litW (X.alloc o) cs).cell? ⟨X.heap.size + 1, j, none⟩ = cs[j]? := by
  have h := litW_cell (X.alloc o) cs j
  rwa [World.size_alloc] at h
/-- A cell that is there stays, whatever comes behind. -/
theorem cell_lit {W : World} {b j : Nat} {u : Value} (cs : Array Value) (h : W.cell? ⟨b, j, none⟩ = some u) : (litW W cs).cell? ⟨b, j, none⟩ = some u := ((litW_below W cs).cell (World.block_lt_of_cell? W _ h)).trans h
theorem cell_al {W : World} {b j : Nat} {u : Value} (o : Obj) (h : W.cell? ⟨b, j, none⟩ = some u) : (W.alloc o).cell? ⟨b, j, none⟩ = some u := (((RowKit.Below.refl _ W).alloc (Nat.le_refl _) o).cell (World.block_lt_of_cell? W _ h)).trans h
theorem cell_new (W : World) (cs : Array Value) (e j : Nat) : (W.alloc (.cells cs e)).cell? ⟨W.heap.size, j, none⟩ = cs[j]? := by
  simp [World.cell?, World.alloc, -World.alloc_eq]

def awX (w : World) : World := litW (litW w #[.int .u8 98]) #[.int .u8 97]
def awR (w : World) : Obj := .cells #[.slice (some ⟨w.heap.size, 0, none⟩) 1 1, .slice (some ⟨(litW w #[.int .u8 98]).heap.size, 0, none⟩) 1 1] 24
def awY (w : World) : World := litW (litW ((awX w).alloc (awR w)) #[.int .u8 99]) #[.int .u8 98]
def awS (w : World) : Obj := .cells #[.slice (some ⟨(awX w).heap.size + 1, 0, none⟩) 1 1, .slice (some ⟨(litW ((awX w).alloc (awR w)) #[.int .u8 99]).heap.size, 0, none⟩) 1 1] 24
theorem aw_a (w : World) : Kd.C (Kd.slice 5 (Kd.int .u8)) ((awY w).alloc (awS w)) (some ⟨(awX w).heap.size, 0, none⟩) 2 [[98], [97]] := by
  have h1 : ((awX w).alloc (awR w)).cell? ⟨(awX w).heap.size, 0, none⟩ = some (.slice (some ⟨w.heap.size, 0, none⟩) 1 1) := cell_new _ _ _ _
  have h2 : ((awX w).alloc (awR w)).cell? ⟨(awX w).heap.size, 1, none⟩ = some (.slice (some ⟨(litW w #[.int .u8 98]).heap.size, 0, none⟩) 1 1) := cell_new _ _ _ _
  have h3 : ((awX w).alloc (awR w)).cell? ⟨w.heap.size, 0, none⟩ = some (.int .u8 98) := cell_al _ (cell_lit _ (litW_cell w #[.int .u8 98] 0))
  have h4 : ((awX w).alloc (awR w)).cell? ⟨(litW w #[.int .u8 98]).heap.size, 0, none⟩ = some (.int .u8 97) := cell_al _ (litW_cell (litW w #[.int .u8 98]) #[.int .u8 97] 0)
  exact C_toks2 (c0 := 1) (c1 := 1) (cell_al _ (cell_lit _ (cell_lit _ h1))) (cell_al _ (cell_lit _ (cell_lit _ h2))) (Nat.le_refl _) (Nat.le_refl _) (C_one (cell_al _ (cell_lit _ (cell_lit _ h3)))) (C_one (cell_al _ (cell_lit _ (cell_lit _ h4))))
theorem aw_b (w : World) : Kd.C (Kd.slice 5 (Kd.int .u8)) ((awY w).alloc (awS w)) (some ⟨(awY w).heap.size, 0, none⟩) 2 [[99], [98]] := by
  have h1 : ((awY w).alloc (awS w)).cell? ⟨(awY w).heap.size, 0, none⟩ = some (.slice (some ⟨(awX w).heap.size + 1, 0, none⟩) 1 1) := cell_new _ _ _ _
  have h2 : ((awY w).alloc (awS w)).cell? ⟨(awY w).heap.size, 1, none⟩ = some (.slice (some ⟨(litW ((awX w).alloc (awR w)) #[.int .u8 99]).heap.size, 0, none⟩) 1 1) := cell_new _ _ _ _
  have h3 : ((awY w).alloc (awS w)).cell? ⟨(awX w).heap.size + 1, 0, none⟩ = some (.int .u8 99) := cell_al _ (cell_lit _ (litW_cell1 _ _ #[.int .u8 99] 0))
  have h4 : ((awY w).alloc (awS w)).cell? ⟨(litW ((awX w).alloc (awR w)) #[.int .u8 99]).heap.size, 0, none⟩ = some (.int .u8 98) := cell_al _ (litW_cell _ #[.int .u8 98] 0)
  exact C_toks2 (c0 := 1) (c1 := 1) h1 h2 (Nat.le_refl _) (Nat.le_refl _) (C_one h3) (C_one h4)
theorem aw_below (w : World) : RowKit.Below w.heap.size w ((awY w).alloc (awS w)) := by
  have s1 : RowKit.Below w.heap.size w (awX w) := (litW_below w _).trans ((litW_below (litW w #[.int .u8 98]) _).mono (by rw [litW_size]; omega))
  have s2 : RowKit.Below w.heap.size w ((awX w).alloc (awR w)) := s1.alloc s1.size _
  have s3 : RowKit.Below w.heap.size w (litW ((awX w).alloc (awR w)) #[.int .u8 99]) := s2.trans ((litW_below _ _).mono s2.size)
  have s4 : RowKit.Below w.heap.size w (awY w) := s3.trans ((litW_below _ _).mono s3.size)
  exact s4.alloc s4.size _
theorem aw_two (w : World) : Calls Try.prog 12 #[.slice (some ⟨(awX w).heap.size, 0, none⟩) 2 2, .slice (some ⟨(awY w).heap.size, 0, none⟩) 2 2] ((awY w).alloc (awS w)) fun e w' => ∃ A0 c0 A1 c1, e = .returned (.tuple #[.slice A0 2 c0, .slice A1 2 c1, .int .i64 3]) ∧ Hid (2 ≤ c0 ∧ 2 ≤ c1 ∧ Kd.C (Kd.int .i64) w' A0 2 [1, 0] ∧ Kd.C (Kd.int .i64) w' A1 2 [2, 1] ∧ RowKit.Below w.heap.size w w') := by
  have hd : names_Two.f 10 [[98], [97]] [[99], [98]] = some ([1, 0], [2, 1], 3) := by decide +kernel
  refine (names_Two.calls 10 _ 2 [[98], [97]] _ 2 [[99], [98]] [1, 0] [2, 1] 3 _ (aw_a w) (Nat.le_refl _) (aw_b w) (Nat.le_refl _) hd).mono ?_
  rintro e w1 ⟨v0, v1, rfl, h0, h1, b1⟩
  obtain ⟨A0, c0, rfl, hc0, hC0⟩ := Kd.R_reads h0
  obtain ⟨A1, c1, rfl, hc1, hC1⟩ := Kd.R_reads h1
  exact ⟨A0, c0, A1, c1, rfl, ⟨hc0, hc1, hC0, hC1, (aw_below w).trans (b1.mono (aw_below w).size)⟩⟩
theorem same_lit (r : Bool) (A : Option Addr) (c : Nat) (x y x' y' : Int) (W : World) (g : Nat) (hg : W.heap.size = g) (hc : 2 ≤ c) (h : Kd.C (Kd.int .i64) W A 2 [x, y]) (hf : PIds.tattingref1_SameInts.f 10 [x, y] [x', y'] = some r) :
    Calls Try.prog 14 #[.slice A 2 c, .slice (some ⟨g, 0, none⟩) 2 2] (W.alloc (.cells #[.int .i64 x', .int .i64 y'] 3)) fun e w' => e = .returned (.bool r) ∧ ∃ n, w' = (W.alloc (.cells #[.int .i64 x', .int .i64 y'] 3)).drewN n := by
  subst hg
  refine (PIds.tattingref1_SameInts.calls 10 A c [x, y] _ 2 [x', y'] r _ (Kd.C_alloc h _) hc (C_two (cell_new _ _ _ _) (cell_new _ _ _ _)) (Nat.le_refl _) hf).mono ?_
  rintro e w' ⟨rfl, ⟨n, rfl⟩⟩
  exact ⟨rfl, n, rfl⟩

def tattinglaw2_awake.f : Option Bool := some true
set_option maxHeartbeats 1000000 in
set_option maxRecDepth 100000 in
theorem tattinglaw2_awake.calls (r : Bool) (w : World) (h : tattinglaw2_awake.f = some r) :
    Calls Try.prog 13 #[] w fun e w' => e = .returned (.bool r) ∧ RowKit.Below w.heap.size w w' := by
  unfold tattinglaw2_awake.f at h
  injection h with h
  subst h
  have hx : PIds.tattingref1_SameInts.f 10 [1, 0] [1, 0] = some true := by decide +kernel
  have hy : PIds.tattingref1_SameInts.f 10 [2, 1] [2, 1] = some true := by decide +kernel
  have HTWO := aw_two w
  simp only [awX, awY, awR, awS] at HTWO
  replace HTWO := Lib.hid HTWO
  have hcv := run_lit
  have hcv1 := run_lit1
  go_enter Try.func13, Try.ntmps13
  go_wp2_with (first
    | (go_at_call 12
       refine HTWO.out.mono ?_
       rintro e w1 ⟨A0, c0, A1, c1, rfl, H⟩)
    | (go_at_call 14
       with_reducible refine (same_lit true A0 c0 1 0 1 0 w1 _ rfl H.out.1 H.out.2.2.1 hx).mono ?_
       rintro e w2 ⟨rfl, n2, rfl⟩)
    | (go_at_call 14
       with_reducible refine (same_lit true A1 c1 2 1 2 1 _ _ ?hg H.out.2.1 (Kd.C_drewN (Kd.C_alloc H.out.2.2.2.1 _) _) hy).mono ?_
       case hg => simp
       rintro e w2 ⟨rfl, n3, rfl⟩))
  go_ret
  refine ⟨rfl, ?_⟩
  have b1 := H.out.2.2.2.2
  have b2 := b1.alloc b1.size (.cells #[.int .i64 1, .int .i64 0] 3)
  have b3 := pw_below_drewN b2 n2
  have b4 := b3.alloc b3.size (.cells #[.int .i64 2, .int .i64 1] 3)
  exact pw_below_drewN b4 n3
end Go.Proofs.Ytnaicfffplnebaa.Man
