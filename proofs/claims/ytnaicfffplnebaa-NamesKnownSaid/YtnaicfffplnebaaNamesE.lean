/- Sorted tokens as plain lists: what names.Sort answers, as a Lean function. -/
import Derived.Test.YtnaicfffplnebaaNamesD
namespace Go.Proofs.Ytnaicfffplnebaa.Man
open Go.RowKit Go.Sort Go.Lib Go.Proofs.YtnaicfffplnebaaW.PrintWords Go.Proofs.YtnaicfffplnebaaW.PrintLast Go.Proofs.YtnaicfffplnebaaW.PrintMore

/-- Numbers that are bytes. -/
def wfB (x : List Int) : Bool := x.all fun n => decide (0 ≤ n) && decide (n ≤ 255)
theorem byt_inj {x y : List Int} (hx : wfB x = true) (hy : wfB y = true) (h : byt x = byt y) : x = y := by
  induction x generalizing y with
  | nil => cases y with
    | nil => rfl
    | cons b y => simp [byt] at h
  | cons a x ih => cases y with
    | nil => simp [byt] at h
    | cons b y =>
      simp only [wfB, List.all_cons, Bool.and_eq_true, decide_eq_true_eq] at hx hy
      simp only [byt, List.map_cons, List.cons.injEq] at h
      have h1 : a = b := by
        have := congrArg UInt8.toNat h.1
        simp only [Nat.toUInt8, UInt8.toNat_ofNat'] at this
        omega
      rw [h1, ih hx.2 hy.2 h.2]
/-- Below, by bytes. -/
def ltT (x y : List Int) : Prop := cmpB (byt x) (byt y) < 0
instance (x y : List Int) : Decidable (ltT x y) := inferInstanceAs (Decidable (_ < _))
theorem ltT_irrefl (x : List Int) : ¬ ltT x x := by unfold ltT; rw [cmpB_self]; omega
theorem ltT_trans {x y z : List Int} (h1 : ltT x y) (h2 : ltT y z) : ltT x z := cmpB_trans h1 h2
theorem ltT_tri (x y : List Int) : ltT x y ∨ byt x = byt y ∨ ltT y x := by
  unfold ltT
  have := cmpB_swap (byt x) (byt y)
  rcases cmpB_range (byt x) (byt y) with h | h | h
  · left; omega
  · right; left; exact cmpB_eq h
  · right; right; omega
theorem strict_unique : ∀ {a b : List (List Int)}, a.Pairwise ltT → b.Pairwise ltT → (∀ x, x ∈ a ↔ x ∈ b) → a = b
  | [], [], _, _, _ => rfl
  | [], y :: b, _, _, h => absurd ((h y).2 (List.mem_cons_self ..)) (by simp)
  | x :: a, [], _, _, h => absurd ((h x).1 (List.mem_cons_self ..)) (by simp)
  | x :: a, y :: b, ha, hb, h => by
    rw [List.pairwise_cons] at ha hb
    have hxy : x = y := by
      rcases List.mem_cons.1 ((h x).1 (List.mem_cons_self ..)) with e | e
      · exact e
      · rcases List.mem_cons.1 ((h y).2 (List.mem_cons_self ..)) with e2 | e2
        · exact e2.symm
        · exact absurd (ltT_trans (hb.1 x e) (ha.1 y e2)) (ltT_irrefl y)
    subst hxy
    rw [strict_unique ha.2 hb.2 fun z => ⟨fun hz => by
      rcases List.mem_cons.1 ((h z).1 (List.mem_cons_of_mem _ hz)) with e | e
      · subst e; exact absurd (ha.1 z hz) (ltT_irrefl z)
      · exact e, fun hz => by
      rcases List.mem_cons.1 ((h z).2 (List.mem_cons_of_mem _ hz)) with e | e
      · subst e; exact absurd (hb.1 z hz) (ltT_irrefl z)
      · exact e⟩]
/-- Put where it belongs, if it is not there. -/
def insU (x : List Int) : List (List Int) → List (List Int)
  | [] => [x]
  | y :: l => if ltT y x then y :: insU x l else if byt y = byt x then y :: l else x :: y :: l
def sortU (l : List (List Int)) : List (List Int) := l.foldl (fun d x => insU x d) []
theorem mem_insU {x z : List Int} {l : List (List Int)} (hx : wfB x = true) (hl : ∀ y ∈ l, wfB y = true) : z ∈ insU x l ↔ z = x ∨ z ∈ l := by
  induction l with
  | nil => simp [insU]
  | cons y l ih =>
    have ih := ih fun y hy => hl y (List.mem_cons_of_mem _ hy)
    simp only [insU]
    split
    · simp only [List.mem_cons, ih]
      constructor
      · rintro (h | h | h)
        · exact .inr (.inl h)
        · exact .inl h
        · exact .inr (.inr h)
      · rintro (h | h | h)
        · exact .inr (.inl h)
        · exact .inl h
        · exact .inr (.inr h)
    · split
      · rename_i h
        have := byt_inj (hl y (List.mem_cons_self ..)) hx h
        subst this
        simp
      · simp
theorem insU_strict {x : List Int} {l : List (List Int)} (hx : wfB x = true) (hl : ∀ y ∈ l, wfB y = true) (h : l.Pairwise ltT) : (insU x l).Pairwise ltT := by
  induction l with
  | nil => simp [insU]
  | cons y l ih =>
    have hl' : ∀ y ∈ l, wfB y = true := fun y hy => hl y (List.mem_cons_of_mem _ hy)
    rw [List.pairwise_cons] at h
    simp only [insU]
    split
    · rename_i hyx
      rw [List.pairwise_cons]
      refine ⟨fun z hz => ?_, ih hl' h.2⟩
      rcases (mem_insU hx hl').1 hz with e | e
      · subst e; exact hyx
      · exact h.1 z e
    · split
      · rw [List.pairwise_cons]; exact h
      · rename_i h1 h2
        have hxy : ltT x y := by
          rcases ltT_tri x y with e | e | e
          · exact e
          · exact absurd e.symm h2
          · exact absurd e h1
        rw [List.pairwise_cons]
        refine ⟨fun z hz => ?_, List.pairwise_cons.2 h⟩
        rcases List.mem_cons.1 hz with e | e
        · subst e; exact hxy
        · exact ltT_trans hxy (h.1 z e)
theorem sortU_spec (l : List (List Int)) (hl : ∀ y ∈ l, wfB y = true) : (sortU l).Pairwise ltT ∧ ∀ z, z ∈ sortU l ↔ z ∈ l := by
  have key : ∀ (l d : List (List Int)), (∀ y ∈ l, wfB y = true) → (∀ y ∈ d, wfB y = true) → d.Pairwise ltT → (l.foldl (fun d x => insU x d) d).Pairwise ltT ∧ ∀ z, z ∈ l.foldl (fun d x => insU x d) d ↔ z ∈ d ∨ z ∈ l := by
    intro l
    induction l with
    | nil => intro d _ _ h; simp [h]
    | cons x l ih =>
      intro d hl hd h
      have hx := hl x (List.mem_cons_self ..)
      have := ih (insU x d) (fun y hy => hl y (List.mem_cons_of_mem _ hy)) (fun y hy => by
        rcases (mem_insU hx hd).1 hy with e | e
        · subst e; exact hx
        · exact hd y e) (insU_strict hx hd h)
      refine ⟨this.1, fun z => ?_⟩
      rw [List.foldl_cons, this.2, mem_insU hx hd, List.mem_cons]
      constructor
      · rintro ((h | h) | h)
        · exact .inr (.inl h)
        · exact .inl h
        · exact .inr (.inr h)
      · rintro (h | h | h)
        · exact .inl (.inr h)
        · exact .inl (.inl h)
        · exact .inr h
  have := key l [] hl (by simp) List.Pairwise.nil
  exact ⟨this.1, fun z => by rw [sortU, this.2]; simp⟩
/-- What compacting leaves of a rising row rises strictly, and has the same tokens. -/
theorem compB_sorted {w : World} (d : List (TokV w)) (hs : d.Pairwise (fun x y => ¬ cmpB (byt y.x) (byt x.x) < 0)) : ((compB sameV d.toArray d.length).map TokV.x).Pairwise ltT := by
  have hle : ∀ i j, i ≤ j → j < d.length → ¬ ltT (d.toArray[j]!).x (d.toArray[i]!).x := by
    intro i j hij hj
    rcases Nat.lt_or_ge i j with h | h
    · have := (List.pairwise_iff_getElem.1 hs) i j (by omega) hj h
      rw [getElem!_pos d.toArray i (by simp; omega), getElem!_pos d.toArray j (by simpa using hj)]
      exact this
    · have : i = j := by omega
      subst this
      exact ltT_irrefl _
  unfold compB
  rw [List.map_map, List.pairwise_map]
  have h0 : (List.range d.length).Pairwise (fun i j => i < j ∧ j < d.length) := by
    rw [List.pairwise_iff_getElem]
    intro i j hi hj hij
    simp at hi hj ⊢
    omega
  have h1 := h0.filter (keepB sameV d.toArray)
  have h2 : ((List.range d.length).filter (keepB sameV d.toArray)).Pairwise (fun i j => i < j ∧ j < d.length ∧ keepB sameV d.toArray j = true) := by
    rw [List.pairwise_iff_getElem] at h1 ⊢
    intro i j hi hj hij
    have := h1 i j hi hj hij
    exact ⟨this.1, this.2, (List.mem_filter.1 (List.getElem_mem hj)).2⟩
  refine h2.imp ?_
  rintro i j ⟨hij, hj, hk⟩
  have hk' : sameV (d.toArray[j]!) (d.toArray[j - 1]!) = false := by
    simp only [keepB, Bool.or_eq_true, decide_eq_true_eq, Bool.not_eq_true'] at hk
    rcases hk with e | e
    · omega
    · exact e
  have hne : byt (d.toArray[j]!).x ≠ byt (d.toArray[j - 1]!).x := of_decide_eq_false hk'
  show ltT (d.toArray[i]!).x (d.toArray[j]!).x
  have a1 := hle i (j - 1) (by omega) (by omega)
  have a2 := hle (j - 1) j (by omega) hj
  have a3 : ltT (d.toArray[j - 1]!).x (d.toArray[j]!).x := by
    rcases ltT_tri (d.toArray[j - 1]!).x (d.toArray[j]!).x with e | e | e
    · exact e
    · exact absurd e.symm hne
    · exact absurd e a2
  rcases ltT_tri (d.toArray[i]!).x (d.toArray[j - 1]!).x with e | e | e
  · exact ltT_trans e a3
  · unfold ltT at a3 ⊢; rw [e]; exact a3
  · exact absurd e a1
theorem compB_mem {w : World} (d : List (TokV w)) (hw : ∀ p ∈ d, wfB p.x = true) (z : List Int) : z ∈ (compB sameV d.toArray d.length).map TokV.x ↔ z ∈ d.map TokV.x := by
  constructor
  · intro h
    obtain ⟨p, hp, rfl⟩ := List.mem_map.1 h
    exact List.mem_map_of_mem (mem_compB hp)
  · intro h
    obtain ⟨p, hp, rfl⟩ := List.mem_map.1 h
    obtain ⟨j, hj, rfl⟩ := List.getElem_of_mem hp
    have hwj : ∀ j, j < d.length → wfB (d.toArray[j]!).x = true := by
      intro j hj
      rw [getElem!_pos d.toArray j (by simpa using hj)]
      exact hw _ (by simp)
    have key : ∀ j, j < d.length → (d.toArray[j]!).x ∈ (compB sameV d.toArray d.length).map TokV.x := by
      intro j
      induction j using Nat.strongRecOn with
      | _ j ih =>
        intro hj
        by_cases hk : keepB sameV d.toArray j = true
        · refine List.mem_map_of_mem ?_
          unfold compB
          exact List.mem_map_of_mem (f := (d.toArray[·]!)) (List.mem_filter.2 ⟨List.mem_range.2 hj, hk⟩)
        · have hk := Bool.eq_false_iff.2 hk
          simp only [keepB, Bool.or_eq_false_iff, decide_eq_false_iff_not, Bool.not_eq_false'] at hk
          have hs : byt (d.toArray[j]!).x = byt (d.toArray[j - 1]!).x := of_decide_eq_true hk.2
          have := byt_inj (hwj j hj) (hwj (j - 1) (by omega)) hs
          rw [this]
          exact ih (j - 1) (by omega) (by omega)
    have := key j hj
    rw [getElem!_pos d.toArray j (by simpa using hj)] at this
    simpa using this

/-- names.Sort as a Lean function. -/
def names_Sort.f (l : List (List Int)) : Option (List (List Int)) :=
  if l.length * 24 ≤ 140737488355328 ∧ (l.all fun x => wfB x && decide (x.length ≤ 140737488355328)) = true then some (sortU l) else none
theorem names_Sort.calls (A0 : Option Addr) (c0 : Nat) (l0 : List (List Int)) (r : List (List Int)) (w : World) (hr0 : Kd.C (Kd.slice 5 (Kd.int .u8)) w A0 l0.length l0) (_hc0 : l0.length ≤ c0) (h : names_Sort.f l0 = some r) :
    Calls Try.prog 9 #[.slice A0 l0.length c0] w fun e w' => ∃ v0_ : Value, e = .returned (v0_) ∧ Kd.S (Kd.slice 5 (Kd.int .u8)) 24 w' w.heap.size (fun _ => True) v0_ r ∧ RowKit.Below w.heap.size w w' := by
  unfold names_Sort.f at h
  split at h
  · rename_i hc
    injection h with h
    obtain ⟨hb, ha⟩ := hc
    rw [List.all_eq_true] at ha
    have hwf : ∀ x ∈ l0, wfB x = true := fun x hx => by have := ha x hx; simp at this; exact this.1
    have hln : ∀ x ∈ l0, x.length ≤ 140737488355328 := fun x hx => by have := ha x hx; simp at this; exact this.2
    refine (sort_walk A0 c0 l0 w hr0 hb hln).mono ?_
    rintro e w' ⟨v, rfl, d', hp, hs, hR, hbl⟩
    refine ⟨v, rfl, ?_, hbl⟩
    have hw' : ∀ p ∈ d', wfB p.x = true := fun p hp' => hwf _ (hp.mem_iff.1 (List.mem_map_of_mem hp'))
    have he : (compB sameV d'.toArray d'.length).map TokV.x = r := by
      rw [← h]
      have hsp := sortU_spec l0 hwf
      exact strict_unique (compB_sorted d' hs) hsp.1 fun z => by rw [compB_mem d' hw' z, hsp.2 z, hp.mem_iff]
    rw [← he]
    exact hR
  · cases h
end Go.Proofs.Ytnaicfffplnebaa.Man
