/- Tokens (slices of bytes) that stay readable while the elder blocks stay; slices.Clone and slices.SortFunc over rows of tokens. -/
import Derived.Test.YtnaicfffplnebaaNamesA
import Derived.Test.YtnaicfffplnebaaShelf
import Derived.Laws.AppendOwnNone
import Derived.Lib.Hide
namespace Go.Proofs.Ytnaicfffplnebaa.Man
open Go.RowKit Go.Sort Go.Proofs.YtnaicfffplnebaaW.PrintWords Go.Proofs.YtnaicfffplnebaaW.PrintLast Go.Proofs.YtnaicfffplnebaaW.PrintMore

/-- A value that reads as a token, whatever becomes of blocks that are younger than w. -/
def Tok (w : World) (v : Value) (x : List Int) : Prop :=
  ∀ W : World, (∀ k, k < w.heap.size → W.heap[k]? = w.heap[k]?) → ∃ A c, v = .slice A x.length c ∧ x.length ≤ c ∧ Kd.C (Kd.int .u8) W A x.length x
theorem C_int_move {k : IntKind} {w W : World} {A : Option Addr} {x : List Int} (h : Kd.C (Kd.int k) w A x.length x) (hW : ∀ k, k < w.heap.size → W.heap[k]? = w.heap[k]?) : Kd.C (Kd.int k) W A x.length x := by
  refine ⟨h.1, h.2.1, fun hn => ?_⟩
  obtain ⟨ad, e, hc⟩ := h.2.2 hn
  refine ⟨ad, e, fun j p hj => ?_⟩
  obtain ⟨c, hl, hr, hcell⟩ := hc j p hj
  exact ⟨c, hl, hr, fun i u hu => (World.cell?_of_block (w := w) (hW _ (World.block_lt_of_cell? w _ (hcell i u hu)))).trans (hcell i u hu)⟩
theorem Tok.of_K {w : World} {v : Value} {x : List Int} (h : (Kd.slice 5 (Kd.int .u8)).K w x [v]) : Tok w v x := by
  obtain ⟨A, c, hv, hl, hC⟩ := h
  injection hv with hv _
  exact fun W hW => ⟨A, c, hv, hl, C_int_move hC hW⟩
theorem Tok.nil (w : World) : Tok w (.slice none 0 0) [] := fun W _ => ⟨none, 0, rfl, Nat.le_refl _, rfl, by simp, fun h => by simp at h⟩
theorem Tok.later {w w1 : World} {v : Value} {x : List Int} (h : Tok w v x) (hW : ∀ k, k < w.heap.size → w1.heap[k]? = w.heap[k]?) (hs : w.heap.size ≤ w1.heap.size) : Tok w1 v x :=
  fun W hw => h W fun k hk => (hw k (by omega)).trans (hW k hk)
/-- Tokens and the values that lead to them. -/
structure TokV (w : World) where
  v : Value
  x : List Int
  tok : Tok w v x
instance (w : World) : Inhabited (TokV w) := ⟨⟨.slice none 0 0, [], Tok.nil w⟩⟩
theorem TokV.one {w : World} (p : TokV w) : p.v.oneCell' = true := by
  obtain ⟨A, c, h, _⟩ := p.tok w (fun _ _ => rfl)
  rw [h]; rfl
/-- The cells of a row of tokens that came in. -/
theorem toks_of_C {w : World} {A : Option Addr} {l : List (List Int)} (h : Kd.C (Kd.slice 5 (Kd.int .u8)) w A l.length l) :
    ∃ d : List (TokV w), d.map TokV.x = l ∧ ∀ ad, A = some ad → ∀ j u, (d.map TokV.v)[j]? = some u → w.cell? (ad.add j) = some u := by
  rcases Nat.eq_zero_or_pos l.length with h0 | h0
  · have : l = [] := List.length_eq_zero_iff.1 h0
    subst this
    exact ⟨[], rfl, fun ad _ j u hu => by simp at hu⟩
  · obtain ⟨ad, rfl, _⟩ := h.2.2 h0
    obtain ⟨inner, hr, hc⟩ := ReadsRow.inner_ h
    have key : ∀ (l : List (List Int)) (inner : List Value), Reps ((Kd.slice 5 (Kd.int .u8)).K w) 1 l inner → ∃ d : List (TokV w), d.map TokV.x = l ∧ d.map TokV.v = inner := by
      intro l
      induction l with
      | nil =>
        intro inner hr
        have : inner = [] := List.length_eq_zero_iff.1 (by simpa using hr.1)
        exact ⟨[], rfl, this.symm⟩
      | cons x l ih =>
        intro inner hr
        cases inner with
        | nil => simp [Reps] at hr
        | cons v inner =>
          have h1 := hr.2 0 x rfl
          simp only [Nat.zero_mul, List.drop_zero, List.take_succ_cons, List.take_zero] at h1
          obtain ⟨d, hd1, hd2⟩ := ih inner ⟨by have := hr.1; simp at this ⊢; omega, fun j p hj => by
            have := hr.2 (j + 1) p (by simpa using hj)
            simpa [Nat.succ_mul] using this⟩
          exact ⟨⟨v, x, Tok.of_K h1⟩ :: d, by simp [hd1], by simp [hd2]⟩
    obtain ⟨d, hd1, hd2⟩ := key l inner hr
    exact ⟨d, hd1, fun ad' e j u hu => by injection e with e; subst e; exact hc j u (hd2 ▸ hu)⟩

theorem info24 : (Try.prog.info? 24).map (fun i => (i.zero, i.size, i.bytes)) = some (some (.slice none 0 0), 1, 24) := by kernel_rfl

/-- slices.Clone of tokens: the same values in a row of the call's own. -/
theorem clone_tt (A : Option Addr) (c : Nat) (us : List Value) (w : World) (hA : ∀ ad, A = some ad → ∀ j u, us[j]? = some u → w.cell? (ad.add j) = some u) (hn : A = none → us = [])
    (h1 : ∀ u ∈ us, u.oneCell' = true) (hbig : us.length * 24 ≤ 140737488355328) :
    Calls Try.prog 23 #[.slice A us.length c] w fun e w' => ∃ v, e = .returned v ∧ w'.ownsRow w.heap.size 24 1 v us.length us ∧ Below w.heap.size w w' := by
  cases A with
  | none =>
    have h0 := hn rfl
    subst h0
    refine (AnyE.slices_Clone_nil Try.cloneTT 0 c w).mono ?_
    rintro e w' ⟨rfl, rfl⟩
    exact ⟨_, rfl, ⟨rfl, .inl ⟨rfl, rfl⟩⟩, Below.refl _ _⟩
  | some ad =>
    obtain ⟨i0, hi, hz0, hz1, hz2⟩ := info_parts info24
    have u22 : ∀ w, Sem.run Try.prog (underlying 22) w = .ok (TypeDesc.slice 24) w := run_underlying Try.underlying22
    have q22 : ∀ (w : World) (a : Option Addr) (n c n' c' : Nat), (binOp .eql 22 (.slice a n c) (.slice none n' c')).run Try.prog w = .ok (.bool a.isNone) w := fun w a n c n' c' => Lib.run_eql_slice_nil w _ _ a n c n' c' Try.underlying22
    have HA := Lib.hid (hA ad rfl)
    clear hA hn
    have hm : us.length ≤ maxLen := by unfold maxLen; omega
    go_enter Try.func23, Try.ntmps23
    go_wp2_with (at_builtin; refine wpList_append_own _ rfl _ _ 22 rfl w.heap.size 24 i0 (.slice none 0 0) 1 24 Try.underlying22 hi hz0 hz1 hz2 rfl (by decide) _ _ _ rfl (World.ownsRow_made w #[] 0 (Nat.le_refl _) (Nat.zero_le _) (by simp)) ad us.length c us rfl ?qc1 ?qc2 ?qc3 ?qc4 ?qc5 ?qc6 ?_)
    case qc1 => simp
    case qc2 =>
      intro j u hj
      exact Lib.cell?_alloc_some _ (HA.out j u hj)
    case qc3 => exact h1
    case qc4 => rw [Nat.zero_add]; exact hm
    case qc5 => rw [Nat.zero_add]; exact hbig
    case qc6 => simp
    intro v' w1 hown hgrow hnil
    go_wp2
    go_ret
    refine ⟨v', rfl, by simpa using hown, ?_⟩
    exact ((Below.refl _ w).alloc (Nat.le_refl _) _).grown hgrow (by simp) (by intro k hk; simp [Value.ownBlock] at hk; omega)

/-! ### the order of bytes -/
theorem cmpB_self (a : List UInt8) : cmpB a a = 0 := by
  induction a with
  | nil => rfl
  | cons x a ih => simp [cmpB, ih]
theorem cmpB_eq {a b : List UInt8} (h : cmpB a b = 0) : a = b := by
  induction a generalizing b with
  | nil => cases b <;> simp_all [cmpB]
  | cons x a ih =>
    cases b with
    | nil => simp [cmpB] at h
    | cons y b =>
      simp only [cmpB] at h
      split at h
      · rename_i e; rw [e, ih h]
      · split at h <;> simp at h
theorem cmpB_swap (a b : List UInt8) : cmpB b a = - cmpB a b := by
  induction a generalizing b with
  | nil => cases b <;> rfl
  | cons x a ih =>
    cases b with
    | nil => rfl
    | cons y b =>
      simp only [cmpB]
      by_cases e : x = y
      · subst e; simp [ih]
      · rw [if_neg e, if_neg (fun h => e h.symm)]
        by_cases h : x < y
        · rw [if_pos h, if_neg (by intro h2; rw [UInt8.lt_iff_toNat_lt] at h h2; omega)]; decide
        · rw [if_neg h, if_pos (by rw [UInt8.lt_iff_toNat_lt] at h ⊢; have : x.toNat ≠ y.toNat := fun h2 => e (UInt8.toNat_inj.1 h2); omega)]
theorem cmpB_range (a b : List UInt8) : cmpB a b = -1 ∨ cmpB a b = 0 ∨ cmpB a b = 1 := by
  induction a generalizing b with
  | nil => cases b <;> simp [cmpB]
  | cons x a ih =>
    cases b with
    | nil => simp [cmpB]
    | cons y b =>
      simp only [cmpB]
      split
      · exact ih b
      · split <;> simp
theorem cmpB_trans {a b c : List UInt8} (h1 : cmpB a b < 0) (h2 : cmpB b c < 0) : cmpB a c < 0 := by
  induction a generalizing b c with
  | nil =>
    cases c with
    | nil => cases b <;> simp [cmpB] at h1 h2
    | cons z c => simp [cmpB]
  | cons x a ih =>
    cases b with
    | nil => simp [cmpB] at h1
    | cons y b =>
      cases c with
      | nil => simp [cmpB] at h2
      | cons z c =>
        simp only [cmpB] at h1 h2 ⊢
        by_cases e1 : x = y
        · subst e1
          by_cases e2 : x = z
          · subst e2
            simp only [if_true] at h1 h2 ⊢
            exact ih h1 h2
          · rw [if_neg e2] at h2 ⊢
            exact h2
        · rw [if_neg e1] at h1
          have hxy : x < y := by
            by_cases h : x < y
            · exact h
            · rw [if_neg h] at h1; simp at h1
          by_cases e2 : y = z
          · subst e2
            rw [if_neg e1, if_pos hxy]; decide
          · rw [if_neg e2] at h2
            have hyz : y < z := by
              by_cases h : y < z
              · exact h
              · rw [if_neg h] at h2; simp at h2
            have hxz : x < z := by rw [UInt8.lt_iff_toNat_lt] at *; omega
            have hne : x ≠ z := by intro e; subst e; rw [UInt8.lt_iff_toNat_lt] at *; omega
            rw [if_neg hne, if_pos hxz]; decide
def cmpV {w : World} (p q : TokV w) : Int := cmpB (byt p.x) (byt q.x)
theorem swoV (w : World) : SWO (ltOf (cmpV (w := w))) where
  irrefl x := by simp [ltOf, cmpV, cmpB_self]
  trans x y z h1 h2 := by
    exact decide_eq_true (cmpB_trans (of_decide_eq_true h1) (of_decide_eq_true h2))
  ntrans x y z h1 h2 := by
    have h1 := of_decide_eq_false h1
    have h2 := of_decide_eq_false h2
    simp only [cmpV] at h1 h2
    refine decide_eq_false (fun h => ?_)
    simp only [cmpV] at h
    rcases cmpB_range (byt x.x) (byt y.x) with e | e | e
    · omega
    · rw [cmpB_eq e] at h; omega
    · have s1 := cmpB_swap (byt x.x) (byt y.x)
      exact h2 (cmpB_trans (by omega) h)

theorem enters25 : ∀ args w, (callFunc 25 args).run Try.prog w = .ok (.enter 25 args) w := enters_of Try.func25 (by kernel_rfl) rfl

theorem heap_sortWorld {α : Type} [Inhabited α] (enc : α → Value) (w : World) (blk off m : Nat) (dk : Array α) (os : Array Obj) (k : Nat) (hk : k < w.heap.size) (hne : k ≠ blk) : (sortWorld enc w blk off m dk os).heap[k]? = w.heap[k]? := by
  unfold sortWorld
  rw [heap_grow_old _ _ (by simpa using hk)]
  unfold putRow mapBlock
  simp only [heap_ahead, Array.getElem?_modify]
  rw [if_neg (by omega)]
theorem heap_sortWorld_at {α : Type} [Inhabited α] (enc : α → Value) (w : World) (blk off m : Nat) (dk : Array α) (os : Array Obj) {cur : Array Value} {e : TypeId} {fr : Nat × Nat} (hb : w.heap[blk]? = some (.cells cur e fr)) : (sortWorld enc w blk off m dk os).heap[blk]? = some (.cells (putCells enc off dk cur) e fr) := by
  have hlt : blk < w.heap.size := (Array.getElem?_eq_some_iff.1 hb).1
  unfold sortWorld
  rw [heap_grow_old _ _ (by simpa using hlt)]
  unfold putRow mapBlock
  simp only [heap_ahead, Array.getElem?_modify, if_true, hb, Option.map_some, onCells]

/-- slices.SortFunc over a row of tokens. -/
theorem sort_tt {w0 : World} (w : World) (hle : w0.heap.size ≤ w.heap.size) (hold : ∀ k, k < w0.heap.size → w.heap[k]? = w0.heap[k]?) (base : Nat) (hb : w0.heap.size ≤ base) (v : Value) (d : List (TokV w0))
    (hown : w.ownsRow base 24 1 v d.length (d.map TokV.v)) (hsz : d.length < 4611686018427387904) :
    Calls Try.prog 24 #[v, .func (.func 25) #[] #[]] w fun e w' => e = .returned (.tuple #[]) ∧ ∃ d' : List (TokV w0), d'.Perm d ∧
      d'.Pairwise (fun x y => ¬ cmpB (byt y.x) (byt x.x) < 0) ∧ w'.ownsRow base 24 1 v d'.length (d'.map TokV.v) ∧ w.grownBy w' v.ownBlock := by
  rcases hown.2 with ⟨rfl, h0⟩ | ⟨g, cap, cur, rfl, hbg, hg, hnc, hcm, hcs, hct⟩
  · have : d = [] := List.length_eq_zero_iff.1 h0
    subst this
    refine (AnyF.slices_SortFunc_none Try.sortF0 none 0 (.func (.func 25) #[] #[]) w).mono ?_
    rintro e w' ⟨rfl, rfl⟩
    exact ⟨rfl, [], List.Perm.refl _, List.Pairwise.nil, hown, ⟨rfl, rfl, rfl, Nat.le_refl _, fun _ _ _ => rfl⟩⟩
  · have hlen : (d.map TokV.v).length = d.length := by simp
    have hgl : g < w.heap.size := (Array.getElem?_eq_some_iff.1 hg).1
    have hget : ∀ j, j < d.length → cur[j]? = some (d.toArray[j]!).v := by
      intro j hj
      have h1 : (cur.toList.take (d.length * 1))[j]? = (d.map TokV.v)[j]? := by rw [hct]
      rw [Nat.mul_one, List.getElem?_take_of_lt hj] at h1
      rw [← Array.getElem?_toList, h1, List.getElem?_map, getElem!_pos d.toArray j (by simpa using hj), List.getElem?_eq_getElem hj]
      simp
    have hH : Holds TokV.v w g 0 d.toArray := by
      intro j hj
      have hj' : j < d.length := by simpa using hj
      rw [Nat.zero_add]
      refine ⟨?_, ?_⟩
      · rw [cell_of_row w g j cur _ _ hg]
        exact hget j hj'
      · simp [World.frozen?, hg]
    have hcmp : CmpLays1 Try.prog 25 #[] TokV.v (cmpV (w := w0)) g 0 d.toArray.size w := by
      intro m os dk _ x y
      have hW : ∀ k, k < w0.heap.size → (sortWorld TokV.v w g 0 m dk os).heap[k]? = w0.heap[k]? := fun k hk => (heap_sortWorld _ _ _ _ _ _ _ k (by omega) (by omega)).trans (hold k hk)
      obtain ⟨A0, c0, e0, _, hC0⟩ := x.tok _ hW
      obtain ⟨A1, c1, e1, _, hC1⟩ := y.tok _ hW
      rw [e0, e1]
      refine (bytes_Compare.calls A0 c0 x.x A1 c1 y.x _ _ hC0 hC1 rfl).mono ?_
      rintro e w' ⟨rfl, ⟨n, rfl⟩⟩
      exact ⟨rfl, n, #[], by rw [grow_empty]⟩
    refine (Any.slices_SortFunc Try.sortF TokV.v TokV.one cmpV (swoV w0) 25 #[] g 0 cap d.toArray w enters25 hcmp hH hgl (by simpa using hsz)).mono ?_
    rintro e w' ⟨rfl, d', n, os, hp, hs, rfl⟩
    refine ⟨rfl, d'.toList, ?_, ?_, ?_, ?_⟩
    · have h3 := hp.2.2
      have e1 : d'.extract 0 d.toArray.size = d' := by rw [← hp.1]; exact Array.extract_size
      rw [e1, Array.extract_size] at h3
      simpa using h3
    · rw [List.pairwise_iff_getElem]
      intro i j hi hj hij
      have := hs i j (Nat.zero_le _) hij (by rw [← hp.1]; simpa using hj)
      have this := of_decide_eq_false this
      simp only [cmpV] at this
      rw [getElem!_pos d' i (by simpa using hi), getElem!_pos d' j (by simpa using hj)] at this
      simpa using this
    · have hl' : d'.toList.length = d.length := by have := hp.1; simp at this ⊢; exact this
      rw [hl']
      refine ⟨by simp [hl'], .inr ⟨g, cap, putCells TokV.v 0 d' cur, rfl, hbg, heap_sortWorld_at _ _ _ _ _ _ _ hg, hnc, hcm, by simp [putCells]; simpa using hcs, ?_⟩⟩
      apply List.ext_getElem?
      intro j
      rcases Nat.lt_or_ge j d.length with hj | hj
      · rw [Nat.mul_one, List.getElem?_take_of_lt hj, Array.getElem?_toList]
        have hjs : j < d'.size := by have := hp.1; simp at this; omega
        have hjc : j < cur.size := by have := hcs; omega
        simp only [putCells, Array.getElem?_mapIdx]
        rw [Array.getElem?_eq_getElem hjc]
        simp only [Option.map_some, Nat.zero_le, true_and, Nat.zero_add, Nat.sub_zero, hjs, if_true]
        rw [List.getElem?_map, Array.getElem?_toList, Array.getElem?_eq_getElem hjs, getElem!_pos d' j hjs]
        rfl
      · rw [List.getElem?_eq_none (by simp; omega), List.getElem?_eq_none (by simp at hl' ⊢; omega)]
    · refine ⟨rfl, rfl, rfl, ?_, fun k hk hne => heap_sortWorld _ _ _ _ _ _ _ k hk (fun e => hne (by simp [Value.ownBlock, e]))⟩
      unfold sortWorld
      rw [size_grow, Go.Sort.size_putRow]
      exact Nat.le_add_right _ _
end Go.Proofs.Ytnaicfffplnebaa.Man
