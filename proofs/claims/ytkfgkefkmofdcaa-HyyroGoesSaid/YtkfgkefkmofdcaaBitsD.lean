/- vec.Words leaves the world alone; the map of a Masks: each number's row. -/
import Derived.Test.YtkfgkefkmofdcaaBitsC
import Derived.Maps.OwnOps
import Derived.StillTailTactics
import Derived.Maps.Views
namespace Go.Proofs.Ytkfgkefkmofdcaa.Man
open Go.RowKit Go.Sort Go.Proofs.YtkfgkefkmofdcaaW.PrintWords Go.Proofs.YtkfgkefkmofdcaaW.PrintLast Go.Proofs.YtkfgkefkmofdcaaW.PrintMore
open Go.Maps (Keyed int_keyed keyOf_int_mk)
attribute [local go_sem] max2_int min2_int max_two min_two max_three min_three max_four min_four

theorem ret_i64 {a b : Int} (h : a = b) : Ending.returned (.int .i64 a) = .returned (.int .i64 b) := by rw [h]
theorem width_q (n : Nat) (hn : n ≤ 1048576) (w : World) : Calls Try.prog 53 #[.int .i64 n] w fun e w' => e = .returned (.int .i64 n) ∧ w' = w := by
  have h1 : (0 : Int) ≤ (n : Int) := by omega
  have h2 : (n : Int) ≤ 1048576 := by omega
  have h3 : (if (n : Int) < 0 then (0 : Int) else (n : Int)) = (n : Int) := if_neg (by omega)
  have h4 : (if 1048576 < (n : Int) then (1048576 : Int) else (n : Int)) = (n : Int) := if_neg (by omega)
  go_enter Try.func53, Try.ntmps53
  go_wp2
  go_ret
  exact ⟨rfl, rfl⟩
/-- How many words so many bits take. -/
def wds (n : Nat) : Nat := (n + 63) / 64
theorem words_q (n : Nat) (hn : n ≤ 1048576) (w : World) : Calls Try.prog 42 #[.int .i64 n] w fun e w' => e = .returned (.int .i64 (wds n)) ∧ w' = w := by
  have h1 : (0 : Int) ≤ (n : Int) := by omega
  have h2 : (n : Int) ≤ 1048576 := by omega
  have hw : wds n = (n + 63) / 64 := rfl
  have HW := Lib.hid hw
  clear hw
  go_enter Try.func42, Try.ntmps42
  go_wp2_with (go_at_call 53; refine (width_q n hn _).mono ?_; rintro e w' ⟨rfl, rfl⟩)
  go_ret
  refine ⟨ret_i64 ?_, rfl⟩
  rw [HW.out]
  omega

def Zm : DataW Unit := .lit (.int .i64 (-1))
/-- An element of the map: the block of its row, which has W words; nil: none. -/
def bel (W : Nat) (v : Value) : Option (DataW Unit × List MemPlace) :=
  match v with
  | .slice none 0 0 => some (Zm, [])
  | .slice (some ⟨b, 0, none⟩) n c => if n = W ∧ c = W then some (.lit (.int .i64 b), []) else none
  | _ => none
theorem bel_row (W b : Nat) : bel W (.slice (some ⟨b, 0, none⟩) W W) = some (.lit (.int .i64 b), []) := by simp [bel]
theorem bel_none (W : Nat) : bel W (.slice none 0 0) = some (Zm, []) := rfl
theorem bel_inv {W b : Nat} {v : Value} {ps : List MemPlace} (h : bel W v = some (.lit (.int .i64 b), ps)) : v = .slice (some ⟨b, 0, none⟩) W W := by
  unfold bel at h
  split at h
  · simp [Zm] at h
  · split at h
    · rename_i hc
      obtain ⟨rfl, rfl⟩ := hc
      simp only [Option.some.injEq, Prod.mk.injEq, DataW.lit.injEq, Lit.int.injEq, true_and] at h
      have h1 := h.1
      rw [Int.ofNat_inj.1 h1]
    · cases h
  · cases h
theorem bel_inv0 {W : Nat} {v : Value} {ps : List MemPlace} (h : bel W v = some (Zm, ps)) : v = .slice none 0 0 := by
  unfold bel at h
  split at h
  · rfl
  · split at h
    · simp [Zm] at h
    · cases h
  · cases h

theorem lawK : Keyed Try.prog 3 := int_keyed Try.underlying3
theorem zeroE (w : World) : (zeroValue 31).run Try.prog w = .ok (.slice none 0 0) w := by kernel_rfl

/-- What a map of rows holds: S: of which numbers there are rows; row: their words; β: in which blocks. -/
structure MS (w : World) (mb W N : Nat) (S : Int → Prop) (row : Int → List Int) (wr : World) : Prop where
  below : Below w.heap.size w wr
  base : w.heap.size ≤ mb
  own : ∃ (β : Int → Nat) (D : DataW Unit), wr.ownsMap Try.prog 3 (bel W) mb N D ∧ (∀ x, S x → D.atKey (.int .i64 x) Zm = .lit (.int .i64 (β x)) ∧ w.heap.size ≤ β x ∧ wr.heap[β x]? = some (.cells (nums .u64 (row x)).toArray 36)) ∧
    (∀ x, ¬ S x → D.atKey (.int .i64 x) Zm = Zm) ∧ ∀ x y, S x → S y → β x = β y → x = y
theorem MS.cap {w : World} {mb W N : Nat} {S : Int → Prop} {row : Int → List Int} {wr : World} (h : MS w mb W N S row wr) : mb < wr.heap.size := by
  obtain ⟨β, D, ho, _⟩ := h.own
  exact ho.lt
/-- Younger blocks alone have come, or one that is none of the map's. -/
theorem MS.moved {w : World} {mb W N : Nat} {S : Int → Prop} {row : Int → List Int} {wr w1 : World} (h : MS w mb W N S row wr) (hb : Below wr.heap.size wr w1) : MS w mb W N S row w1 := by
  have hc := h.cap
  refine ⟨h.below.trans (hb.mono h.below.size), h.base, ?_⟩
  obtain ⟨β, D, ho, h1, h2, h3⟩ := h.own
  refine ⟨β, D, ?_, fun x hx => ?_, h2, h3⟩
  · obtain ⟨es, clock, hb', F, hs, hD⟩ := ho
    exact ⟨es, clock, (hb.block mb hc).trans hb', F, hs, hD⟩
  · obtain ⟨a1, a2, a3⟩ := h1 x hx
    exact ⟨a1, a2, (hb.block _ (Array.getElem?_eq_some_iff.1 a3).1).trans a3⟩
theorem MS.far {w : World} {mb W N : Nat} {S : Int → Prop} {row : Int → List Int} {wr w1 : World} {g : Nat} (h : MS w mb W N S row wr) (hb : Below w.heap.size w w1) (hblk : ∀ k, k < wr.heap.size → k ≠ g → w1.heap[k]? = wr.heap[k]?) (hcell : ∀ o, wr.heap[g]? = some o → (∀ es ck, o ≠ .map es ck) ∧ ∀ cs, o ≠ .cells cs 36) : MS w mb W N S row w1 := by
  have hc := h.cap
  refine ⟨hb, h.base, ?_⟩
  obtain ⟨β, D, ho, h1, h2, h3⟩ := h.own
  refine ⟨β, D, ?_, fun x hx => ?_, h2, h3⟩
  · obtain ⟨es, clock, hb', F, hs, hD⟩ := ho
    refine ⟨es, clock, (hblk mb hc (fun e => ?_)).trans hb', F, hs, hD⟩
    subst e
    exact (hcell _ hb').1 _ _ rfl
  · obtain ⟨a1, a2, a3⟩ := h1 x hx
    refine ⟨a1, a2, (hblk _ (Array.getElem?_eq_some_iff.1 a3).1 (fun e => ?_)).trans a3⟩
    rw [e] at a3
    exact (hcell _ a3).2 _ rfl
theorem MS.grown {w : World} {mb W N : Nat} {S : Int → Prop} {row : Int → List Int} {wr w1 : World} {g : Nat} (h : MS w mb W N S row wr) (hg : wr.grownBy w1 (some g)) (hlo : w.heap.size ≤ g) (hcell : ∀ o, wr.heap[g]? = some o → (∀ es ck, o ≠ .map es ck) ∧ ∀ cs, o ≠ .cells cs 36) : MS w mb W N S row w1 :=
  h.far (h.below.grown hg h.below.size (fun k hk => by cases hk; exact hlo)) (fun k hk hne => hg.block k hk (fun e => hne (by injection e))) hcell
theorem MS.start {w W0 : World} (hb : Below w.heap.size w W0) (W : Nat) (row : Int → List Int) : MS w W0.heap.size W 0 (fun _ => False) row (W0.alloc (.map #[] 0)) :=
  ⟨hb.alloc hb.size _, hb.size, fun _ => 0, .map [], World.ownsMap_made _ _ _ _, fun _ h => h.elim, fun _ _ => rfl, fun _ _ h => h.elim⟩
theorem MS.iff {w : World} {mb W N : Nat} {S S' : Int → Prop} {row row' : Int → List Int} {wr : World} (h : MS w mb W N S row wr) (hS : ∀ x, S' x ↔ S x) (hr : ∀ x, S x → row' x = row x) : MS w mb W N S' row' wr := by
  refine ⟨h.below, h.base, ?_⟩
  obtain ⟨β, D, ho, h1, h2, h3⟩ := h.own
  refine ⟨β, D, ho, fun x hx => ?_, fun x hx => h2 x (fun hx' => hx ((hS x).2 hx')), fun x y hx hy => h3 x y ((hS x).1 hx) ((hS y).1 hy)⟩
  have hx := (hS x).1 hx
  rw [hr x hx]
  exact h1 x hx
theorem MS.looks {w : World} {mb W N : Nat} {S : Int → Prop} {row : Int → List Int} {wr : World} (h : MS w mb W N S row wr) (x : Int) (hx : (Lit.int .i64 x).wf = true) :
    ∃ v, (∀ w1, Below wr.heap.size wr w1 → (Instr.lookup 50 (.map (some mb)) (.int .i64 x) false).run Try.prog w1 = .ok v w1) ∧ (S x → ∃ b, v = .slice (some ⟨b, 0, none⟩) W W ∧ w.heap.size ≤ b ∧ wr.heap[b]? = some (.cells (nums .u64 (row x)).toArray 36)) ∧ (¬ S x → v = .slice none 0 0) := by
  have hc := h.cap
  obtain ⟨β, D, ho, h1, h2, h3⟩ := h.own
  have key : ∀ w1, Below wr.heap.size wr w1 → ∃ v ps, (Instr.lookup 50 (.map (some mb)) (.int .i64 x) false).run Try.prog w1 = .ok v w1 ∧ bel W v = some (D.atKey (.int .i64 x) Zm, ps) := by
    intro w1 hb
    have ho1 : w1.ownsMap Try.prog 3 (bel W) mb N D := by
      obtain ⟨es, clock, hb', F, hs, hD⟩ := ho
      exact ⟨es, clock, (hb.block mb hc).trans hb', F, hs, hD⟩
    exact ho1.lookup lawK Try.underlying50 (zeroE _) (zd := Zm) (zp := []) (bel_none W) (keyOf_int_mk Try.underlying3 hx)
  rcases Classical.em (S x) with hS | hS
  · obtain ⟨a1, a2, a3⟩ := h1 x hS
    refine ⟨.slice (some ⟨β x, 0, none⟩) W W, fun w1 hb => ?_, fun _ => ⟨β x, rfl, a2, a3⟩, fun hn => absurd hS hn⟩
    obtain ⟨v, ps, hrun, hv⟩ := key w1 hb
    rw [a1] at hv
    rw [hrun, bel_inv hv]
  · refine ⟨.slice none 0 0, fun w1 hb => ?_, fun hn => absurd hn hS, fun _ => rfl⟩
    obtain ⟨v, ps, hrun, hv⟩ := key w1 hb
    rw [h2 x hS] at hv
    rw [hrun, bel_inv0 hv]
theorem MS.look {w : World} {mb W N : Nat} {S : Int → Prop} {row : Int → List Int} {wr : World} (h : MS w mb W N S row wr) (x : Int) (hx : (Lit.int .i64 x).wf = true) :
    ∃ v, (Instr.lookup 50 (.map (some mb)) (.int .i64 x) false).run Try.prog wr = .ok v wr ∧ (S x → ∃ b, v = .slice (some ⟨b, 0, none⟩) W W ∧ w.heap.size ≤ b ∧ wr.heap[b]? = some (.cells (nums .u64 (row x)).toArray 36)) ∧ (¬ S x → v = .slice none 0 0) := by
  obtain ⟨v, h1, h2, h3⟩ := h.looks x hx
  exact ⟨v, h1 wr (Below.refl _ _), h2, h3⟩
/-- The world behind 'm[k] = v'. -/
noncomputable def mput (mb W : Nat) (X : Int) (w : World) (b : Nat) : World :=
  match (Instr.mapUpdate 50 (.map (some mb)) (.int .i64 X) (.slice (some ⟨b, 0, none⟩) W W)).run Try.prog w with
  | .ok _ w' => w'
  | _ => w
theorem MS.put_run {w : World} {mb W N : Nat} {S : Int → Prop} {row : Int → List Int} {wr : World} (h : MS w mb W N S row wr) (X : Int) (hX : (Lit.int .i64 X).wf = true) (hN : N < maxLen) :
    ∀ b, (Instr.mapUpdate 50 (.map (some mb)) (.int .i64 X) (.slice (some ⟨b, 0, none⟩) W W)).run Try.prog wr = .ok () (mput mb W X wr b) := by
  intro b
  obtain ⟨β, D, ho, h1, h2, h3⟩ := h.own
  obtain ⟨w', hrun, _⟩ := ho.update (key := .int .i64 X) (val := .slice (some ⟨b, 0, none⟩) W W) lawK Try.underlying50 hN (keyOf_int_mk Try.underlying3 hX) (bel_row W b)
  unfold mput
  rw [hrun]
/-- 'm[k] = v', v a row that has just been made. -/
theorem MS.put {w W0 : World} {mb W N : Nat} {S : Int → Prop} {row : Int → List Int} (X : Int) (hX : (Lit.int .i64 X).wf = true) (hN : N < maxLen) (cs : Array Value) (hcs : cs = (nums .u64 (List.replicate W 0)).toArray)
    (h : MS w mb W N S row W0) : MS w mb W (N + 1) (fun y => S y ∨ y = X) (fun y => if y = X then List.replicate W 0 else row y) (mput mb W X (W0.alloc (.cells cs 36)) W0.heap.size) ∧ (W0.alloc (.cells cs 36)).grownBy (mput mb W X (W0.alloc (.cells cs 36)) W0.heap.size) (some mb) := by
  subst hcs
  have hc := h.cap
  obtain ⟨β, D, ho, h1, h2, h3⟩ := h.own
  have hlt : ∀ y, S y → β y < W0.heap.size := fun y hy => (Array.getElem?_eq_some_iff.1 (h1 y hy).2.2).1
  have hm0 : Maps.IsMap D := by obtain ⟨_, _, _, _, _, e⟩ := ho; exact ⟨_, e⟩
  have hb : Below w.heap.size w (W0.alloc (.cells (nums .u64 (List.replicate W 0)).toArray 36)) := h.below.alloc h.below.size _
  have hnew : (W0.alloc (.cells (nums .u64 (List.replicate W 0)).toArray 36)).heap[W0.heap.size]? = some (.cells (nums .u64 (List.replicate W 0)).toArray 36) := heap_alloc_new _ _
  have hold : ∀ k, k < W0.heap.size → (W0.alloc (.cells (nums .u64 (List.replicate W 0)).toArray 36)).heap[k]? = W0.heap[k]? := fun k hk => ((Below.refl _ W0).alloc (Nat.le_refl _) _).block k hk
  obtain ⟨w', hrun, hown, hgrow⟩ := (ho.alloc (.cells (nums .u64 (List.replicate W 0)).toArray 36)).update (key := .int .i64 X) (val := .slice (some ⟨W0.heap.size, 0, none⟩) W W) lawK Try.underlying50 hN (keyOf_int_mk Try.underlying3 hX) (bel_row W _)
  have hw : mput mb W X (W0.alloc (.cells (nums .u64 (List.replicate W 0)).toArray 36)) W0.heap.size = w' := by
    unfold mput
    rw [hrun]
  rw [hw]
  have hkeep : ∀ k, k < (W0.alloc (.cells (nums .u64 (List.replicate W 0)).toArray 36)).heap.size → k ≠ mb → w'.heap[k]? = (W0.alloc (.cells (nums .u64 (List.replicate W 0)).toArray 36)).heap[k]? := fun k hk hne => hgrow.block k hk (fun e => hne (by injection e))
  have hmap : ∀ k cs, W0.heap[k]? = some (.cells cs 36) → k ≠ mb := by
    rintro k cs hk rfl
    obtain ⟨es, ck, hb', _⟩ := ho
    rw [hb'] at hk; cases hk
  refine ⟨⟨hb.grown hgrow hb.size (fun k hk => by cases hk; exact h.base), h.base, fun y => if y = X then W0.heap.size else β y, _, hown, ?_, ?_, ?_⟩, hgrow⟩
  · intro y hy
    by_cases e : y = X
    · subst e
      simp only [if_pos]
      refine ⟨Maps.atKey_put_same hm0 (lawK.key (keyOf_int_mk Try.underlying3 (by assumption))) _ _, h.below.size, ?_⟩
      rw [hkeep _ (by simp) (by omega)]
      exact hnew
    · have hy' := hy.resolve_right e
      obtain ⟨a1, a2, a3⟩ := h1 y hy'
      simp only [if_neg e]
      refine ⟨(Maps.atKey_put_other (fun e' => e (by injection e')) _ _).trans a1, a2, ?_⟩
      rw [hkeep _ (by have := hlt y hy'; simp; omega) (hmap _ _ a3), hold _ (hlt y hy')]
      exact a3
  · intro y hy
    have e : y ≠ X := fun e => hy (.inr e)
    exact (Maps.atKey_put_other (fun e' => e (by injection e')) _ _).trans (h2 y (fun hs => hy (.inl hs)))
  · intro y z hy hz e
    by_cases e1 : y = X <;> by_cases e2 : z = X
    · rw [e1, e2]
    · have := hlt z (hz.resolve_right e2); simp [e1, e2] at e; omega
    · have := hlt y (hy.resolve_right e1); simp [e1, e2] at e; omega
    · simp [e1, e2] at e
      exact h3 y z (hy.resolve_right e1) (hz.resolve_right e2) e
/-- A word of a number's row is written. -/
theorem MS.set {w : World} {mb W N : Nat} {S : Int → Prop} {row : Int → List Int} {wr : World} (h : MS w mb W N S row wr) (x : Int) (hS : S x) (b j : Nat) (u : Int) (hb : ∃ v, (Instr.lookup 50 (.map (some mb)) (.int .i64 x) false).run Try.prog wr = .ok v wr ∧ v = .slice (some ⟨b, 0, none⟩) W W) (hx : (Lit.int .i64 x).wf = true) :
    MS w mb W N S (fun y => if y = x then (row x).set j u else row y) (wr.setCell ⟨b, j, none⟩ (.int .u64 u)) := by
  obtain ⟨β, D, ho, h1, h2, h3⟩ := h.own
  have hbx : b = β x := by
    obtain ⟨v, hrun, rfl⟩ := hb
    obtain ⟨v', ps, hrun', hv'⟩ := ho.lookup lawK Try.underlying50 (zeroE _) (zd := Zm) (zp := []) (bel_none W) (keyOf_int_mk Try.underlying3 hx)
    rw [hrun] at hrun'
    injection hrun' with e _
    rw [(h1 x hS).1, ← e] at hv'
    have := bel_inv hv'
    injection this with e1 _ _
    injection e1 with e1
    injection e1
  subst hbx
  obtain ⟨a1, a2, a3⟩ := h1 x hS
  have hlt := (Array.getElem?_eq_some_iff.1 a3).1
  have hold : ∀ k, k ≠ β x → (wr.setCell ⟨β x, j, none⟩ (.int .u64 u)).heap[k]? = wr.heap[k]? := fun k hk => Below.heap_setCell wr ⟨β x, j, none⟩ _ k hk
  refine ⟨h.below.setCell a2 _, h.base, β, D, ?_, fun y hy => ?_, h2, h3⟩
  · obtain ⟨es, clock, hb', F, hs, hD⟩ := ho
    refine ⟨es, clock, (hold _ (fun e => ?_)).trans hb', F, hs, hD⟩
    rw [← e, hb'] at a3; cases a3
  · obtain ⟨b1, b2, b3⟩ := h1 y hy
    refine ⟨b1, b2, ?_⟩
    by_cases e : y = x
    · subst e
      rw [if_pos rfl]
      rw [heap_setCell_same wr (β y) j _ 36 _ a3]
      congr 2
      rw [show nums .u64 ((row y).set j u) = ((row y).set j u).map (Value.int .u64) from rfl, show nums .u64 (row y) = (row y).map (Value.int .u64) from rfl, List.map_set]
      simp
    · rw [if_neg e, hold _ (fun e' => e (h3 y x hy hS e'))]
      exact b3
end Go.Proofs.Ytkfgkefkmofdcaa.Man
