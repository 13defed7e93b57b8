/- tattingref1.Sort walked. -/
import Derived.Test.YtnaicfffplnebaaNamesI
import Derived.Lib.SmallJoins
namespace Go.Proofs.Ytnaicfffplnebaa.Man
open Go.RowKit Go.Sort Go.Lib Go.Proofs.YtnaicfffplnebaaW.PrintWords Go.Proofs.YtnaicfffplnebaaW.PrintLast Go.Proofs.YtnaicfffplnebaaW.PrintMore

/-- Below, of two tokens, in a world where their blocks stay. -/
theorem below_tok {w : World} {P : Nat → Prop} (p q : TokW w P) (hp : wfB p.x = true) (hq : wfB q.x = true) (hl : p.x.length ≤ 140737488355328) (W : World) (hW : ∀ k, P k → k < w.heap.size → W.heap[k]? = w.heap[k]?) :
    Calls Try.prog 22 #[p.v, q.v] W fun e w' => e = .returned (.bool (decide (ltT p.x q.x))) ∧ ∃ m, w' = W.drewN m := by
  obtain ⟨A, c, e1, h1, hC1⟩ := p.form W hW
  obtain ⟨A', c', e2, h2, hC2⟩ := q.form W hW
  rw [e1, e2]
  refine (PIds.tattingref1_Below.calls _ A c p.x A' c' q.x _ W hC1 h1 hC2 h2 (below_f hp hq hl)).mono ?_
  rintro e w' ⟨rfl, ⟨n, rfl⟩⟩
  exact ⟨rfl, n, rfl⟩
theorem same_tok {w : World} {P : Nat → Prop} (p q : TokW w P) (W : World) (hW : ∀ k, P k → k < w.heap.size → W.heap[k]? = w.heap[k]?) :
    Calls Try.prog 21 #[p.v, q.v] W fun e w' => e = .returned (.bool (decide (byt p.x = byt q.x))) ∧ ∃ m, w' = W.drewN m := by
  obtain ⟨A, c, e1, h1, hC1⟩ := p.form W hW
  obtain ⟨A', c', e2, h2, hC2⟩ := q.form W hW
  rw [e1, e2]
  refine (PIds.tattingref1_Same.calls A c p.x A' c' q.x _ W hC1 h1 hC2 h2 (same_f _ _)).mono ?_
  rintro e w' ⟨rfl, ⟨n, rfl⟩⟩
  exact ⟨rfl, n, rfl⟩
theorem TokW.sl {w : World} {P : Nat → Prop} (p : TokW w P) : ∃ A c, p.v = .slice A p.x.length c := by
  obtain ⟨A, c, e, _⟩ := p.form w (fun _ _ _ => rfl)
  exact ⟨A, c, e⟩

theorem reads_row {w W : World} {P : Nat → Prop} {A : Option Addr} {m : Nat} {ys : List (TokW w P)} (h : ReadsOf TokW.v default W A m ys) : ReadsRow (fun (x : TokW w P) cs => cs = [x.v]) 1 W A m ys := by
  refine ⟨h.1, h.2.1, fun hm => ?_⟩
  obtain ⟨ad, e, hc⟩ := h.2.2 hm
  refine ⟨ad, e, fun j p hj => ⟨[p.v], rfl, rfl, fun i u hu => ?_⟩⟩
  have hi0 : i = 0 := by
    have := (List.getElem?_eq_some_iff.1 hu).1
    simpa using this
  subst hi0
  have hu' : p.v = u := by simpa using hu
  have hjl := (List.getElem?_eq_some_iff.1 hj).1
  have h1 := hc j (by have := h.1; omega)
  rw [List.getD_eq_getElem?_getD, hj] at h1
  rw [show j * 1 + 0 = j by omega, ← hu']
  exact h1
/-- An append of tokens in a region that draws its order. -/
theorem step_app {w0 : World} {P0 : Nat → Prop} {P : Program} {ops : Array Oper} {o : Oper} {a : Act} {Q : Exit → Act → World → Prop} {W : World} {Kc : Act → World → Prop} (base : Nat) (wb : World) (hw : Region.wanted o (yielded ops a.tmps) = true) (s x : Operand) (t : TypeId) (ho : o.op = .call { callee := .builtin .append, args := #[s, x], argTypes := #[t, t] })
    (ht : P.underlying t = some (.slice 24)) (hinfo : (P.info? 24).map (fun i => (i.zero, i.size, i.bytes)) = some (some (.slice none 0 0), 1, 24))
    (v : Value) (xs ys : List (TokW w0 P0)) (A : Option Addr) (m c : Nat) (hs : a.eval s = v) (hx : a.eval x = .slice A m c)
    (HO : W.ownsRow base 24 1 v xs.length (encs TokW.v xs)) (HR : ReadsOf TokW.v default W A m ys) (HB : RowKit.Below base wb W) (hbase : base ≤ W.heap.size) (hl : (xs.length + m) * 24 ≤ 140737488355328)
    (h : ∀ v1 w1, w1.ownsRow base 24 1 v1 (xs ++ ys).length (encs TokW.v (xs ++ ys)) → RowKit.Below base wb w1 → W.grownBy w1 v.ownBlock → Kc (a.put o.dst v1) w1) :
    if Region.wanted o (yielded ops a.tmps) = true then Oper.wp P o a W Kc Q else Kc (a.put o.dst undef) W := by
  refine Kd.R_append_rows_step (d := Kd.scalar TokW.v TokW.one) (Rr := fun (x : TokW w0 P0) cs => cs = [x.v]) (w0 := wb) base hw s x t 24 (.slice none 0 0) 24 ho ht hinfo rfl Nat.one_pos (by decide) v xs ys A m c (fun _ => True) (fun k => some k ≠ v.ownBlock) hs hx (Kd.R_of_own HO (fun _ _ => trivial)) (reads_row HR) (fun x cs e => e) (fun k hk => ⟨trivial, hk⟩) (fun _ _ => trivial) HB hbase hl ?_
  intro v1 w1 hr hb hg _
  exact h v1 w1 (Kd.own_of_R hr) hb hg

theorem own_cases {w0 W : World} {P0 : Nat → Prop} {base : Nat} {A : Option Addr} {c n : Nat} {dd : List (TokW w0 P0)} (h : W.ownsRow base 24 1 (.slice A n c) n (encs TokW.v dd)) (hn : dd.length = n) :
    (A = none ∧ c = 0 ∧ n = 0) ∨ ∃ g, A = some ⟨g, 0, none⟩ ∧ n ≤ c ∧ g < W.heap.size ∧ ∀ k, k < n → W.cell? ⟨g, k, none⟩ = some (dd.getD k default).v := by
  rcases h.2 with ⟨e, h0⟩ | ⟨g, cap, cur, e, hbg, hg, hnc, hcm, hcs, hct⟩
  · injection e with e1 _ e3
    exact .inl ⟨e1, e3, h0⟩
  · injection e with e1 _ e3
    subst e1 e3
    refine .inr ⟨g, rfl, hnc, ?_, fun k hk => ?_⟩
    · exact (Array.getElem?_eq_some_iff.1 hg).1
    · have := h.cells (g := g) rfl k (dd.getD k default).v (by
        rw [show encs TokW.v dd = dd.map TokW.v from rfl, List.getElem?_map, List.getElem?_eq_getElem (by omega), List.getD_eq_getElem?_getD, List.getElem?_eq_getElem (by omega)]; rfl)
      rwa [add_plain] at this
theorem reads_take {w0 W : World} {P0 : Nat → Prop} {A : Option Addr} {n k : Nat} {dd : List (TokW w0 P0)} (hn : dd.length = n) (hk : k ≤ n) (hm : n ≤ 140737488355328) (hA : A = none → n = 0) (h : ∀ ad, A = some ad → ∀ j, j < n → W.cell? (ad.add j) = some (dd.getD j default).v) : ReadsOf TokW.v default W A k (dd.take k) := by
  refine ⟨by rw [List.length_take]; omega, by omega, fun hk0 => ?_⟩
  cases A with
  | none => have := hA rfl; omega
  | some ad =>
    refine ⟨ad, rfl, fun j hj => ?_⟩
    rw [h ad rfl j (by omega), List.getD_eq_getElem?_getD, List.getD_eq_getElem?_getD, List.getElem?_take, if_pos hj]
theorem reads_drop {w0 W : World} {P0 : Nat → Prop} {g n k : Nat} {dd : List (TokW w0 P0)} (hn : dd.length = n) (hk : k ≤ n) (hm : n ≤ 140737488355328) (h : ∀ j, j < n → W.cell? ⟨g, j, none⟩ = some (dd.getD j default).v) : ReadsOf TokW.v default W (some ⟨g, k, none⟩) (n - k) (dd.drop k) := by
  refine ⟨by rw [List.length_drop]; omega, by omega, fun hk0 => ⟨_, rfl, fun j hj => ?_⟩⟩
  rw [show (⟨g, k, none⟩ : Addr).add j = ⟨g, k + j, none⟩ by unfold Addr.add; split <;> simp_all, h (k + j) (by omega), List.getD_eq_getElem?_getD, List.getD_eq_getElem?_getD, List.getElem?_drop]

theorem own0 (W : World) (base g : Nat) (hg : W.heap.size = g) (h : base ≤ g) : (W.alloc (.cells #[] 24)).ownsRow base 24 1 (.slice (some ⟨g, 0, none⟩) 0 0) 0 [] := by
  subst hg
  exact World.ownsRow_lit (base := base) (e := 24) (size := 1) W #[] 0 h (by decide) rfl
theorem reads_far {w0 W W1 : World} {P0 : Nat → Prop} {row : Option Nat} {g m : Nat} {ys : List (TokW w0 P0)} (hg : W.grownBy W1 row) (hne : row ≠ some g) (h : ReadsOf TokW.v default W (some ⟨g, 0, none⟩) m ys) : ReadsOf TokW.v default W1 (some ⟨g, 0, none⟩) m ys := by
  refine ⟨h.1, h.2.1, fun hm => ?_⟩
  obtain ⟨ad, e, hc⟩ := h.2.2 hm
  injection e with e
  subst e
  refine ⟨_, rfl, fun j hj => ?_⟩
  have h1 := hc j hj
  rw [add_plain] at h1 ⊢
  rw [hg.cell_far _ (World.block_lt_of_cell? W _ h1) (Ne.symm hne)]
  exact h1
theorem reads_alloc {w0 W : World} {P0 : Nat → Prop} {A : Option Addr} {m : Nat} {ys : List (TokW w0 P0)} (o : Obj) (h : ReadsOf TokW.v default W A m ys) : ReadsOf TokW.v default (W.alloc o) A m ys :=
  h.below ((RowKit.Below.refl _ W).alloc (Nat.le_refl _) o)

theorem place_eq {d : List (List Int)} {x : List Int} {k : Nat} (hk : k ≤ d.length) (h1 : ∀ j y, j < k → d[j]? = some y → ltT y x) (h2 : ∀ y, d[k]? = some y → ¬ ltT y x) : placeU x d = k := by
  induction d generalizing k with
  | nil => simp at hk; subst hk; rfl
  | cons y d ih =>
    rw [placeU_cons]
    cases k with
    | zero => rw [if_neg (h2 y rfl)]
    | succ k => rw [if_pos (h1 0 y (by omega) rfl), ih (by simpa using hk) (fun j z hj hz => h1 (j + 1) z (by omega) (by simpa using hz)) (fun z hz => h2 z (by simpa using hz))]
theorem sortU_next {l : List (List Int)} {i : Nat} {x : List Int} (h : l[i]? = some x) : sortU (l.take (i + 1)) = insU x (sortU (l.take i)) := by
  have hi := (List.getElem?_eq_some_iff.1 h)
  rw [List.take_succ_eq_append_getElem hi.1, hi.2]
  simp [sortU]
section
variable {w : World} {P0 : Nat → Prop} {dd l0 : List (TokW w P0)} {li : TokW w P0} {i k : Nat}
theorem step_same (h : dd.map TokW.x = sortU ((l0.take i).map TokW.x)) (hli : l0[i]? = some li) (hk : k ≤ dd.length) (h1 : ∀ j p, j < k → dd[j]? = some p → ltT p.x li.x) {p : TokW w P0} (hp : dd[k]? = some p) (h2 : ¬ ltT p.x li.x) (he : byt p.x = byt li.x) : dd.map TokW.x = sortU ((l0.take (i + 1)).map TokW.x) := by
  rw [List.map_take, sortU_next (x := li.x) (by rw [List.getElem?_map, hli]; rfl), ← List.map_take, ← h, insU_place]
  have hpl : placeU li.x (dd.map TokW.x) = k := place_eq (by simpa using hk) (fun j y hj hy => by
    rw [List.getElem?_map] at hy
    obtain ⟨q, hq, rfl⟩ := Option.map_eq_some_iff.1 hy
    exact h1 j q hj hq) (fun y hy => by
    rw [List.getElem?_map, hp] at hy
    injection hy with hy
    subst hy
    exact h2)
  have hlt := (List.getElem?_eq_some_iff.1 hp).1
  rw [hpl, if_pos]
  refine ⟨by simpa using hlt, ?_⟩
  rw [List.getD_eq_getElem?_getD, List.getElem?_map, hp]
  exact he
theorem step_new (h : dd.map TokW.x = sortU ((l0.take i).map TokW.x)) (hli : l0[i]? = some li) (hk : k ≤ dd.length) (h1 : ∀ j p, j < k → dd[j]? = some p → ltT p.x li.x) (h2 : ∀ p, dd[k]? = some p → ¬ ltT p.x li.x ∧ ¬ byt p.x = byt li.x) : (dd.take k ++ [li] ++ dd.drop k).map TokW.x = sortU ((l0.take (i + 1)).map TokW.x) := by
  rw [List.map_take, sortU_next (x := li.x) (by rw [List.getElem?_map, hli]; rfl), ← List.map_take, ← h, insU_place]
  have hpl : placeU li.x (dd.map TokW.x) = k := place_eq (by simpa using hk) (fun j y hj hy => by
    rw [List.getElem?_map] at hy
    obtain ⟨q, hq, rfl⟩ := Option.map_eq_some_iff.1 hy
    exact h1 j q hj hq) (fun y hy => by
    rw [List.getElem?_map] at hy
    obtain ⟨q, hq, rfl⟩ := Option.map_eq_some_iff.1 hy
    exact (h2 q hq).1)
  rw [hpl, if_neg]
  · simp [List.map_take, List.map_drop]
  · rintro ⟨hlt, he⟩
    rw [List.length_map] at hlt
    have := h2 _ (List.getElem?_eq_getElem hlt)
    rw [List.getD_eq_getElem?_getD, List.getElem?_map, List.getElem?_eq_getElem hlt] at he
    exact this.2 he
theorem new_len (hk : k ≤ dd.length) (hd : dd.length ≤ i) : (dd.take k ++ [li] ++ dd.drop k).length ≤ i + 1 := by
  simp; omega
theorem new_mem (hli : l0[i]? = some li) (h : ∀ p ∈ dd, p ∈ l0) : ∀ p ∈ dd.take k ++ [li] ++ dd.drop k, p ∈ l0 := by
  intro p hp
  rcases List.mem_append.1 hp with hp | hp
  · rcases List.mem_append.1 hp with hp | hp
    · exact h p (List.mem_of_mem_take hp)
    · rw [List.mem_singleton.1 hp]; exact List.mem_of_getElem? hli
  · exact h p (List.mem_of_mem_drop hp)
end

set_option maxHeartbeats 8000000 in
set_option maxRecDepth 100000 in
theorem refSort_walk {w : World} {P0 : Nat → Prop} (A0 : Option Addr) (c0 : Nat) (l0 : List (TokW w P0)) (hR0 : ReadsOf TokW.v default w A0 l0.length l0) (hbig : (l0.length + 1) * 24 ≤ 140737488355328)
    (hwf : ∀ p ∈ l0, wfB p.x = true) (hln : ∀ p ∈ l0, p.x.length ≤ 140737488355328) :
    Calls Try.prog 17 #[.slice A0 l0.length c0] w fun e w' => ∃ v, e = .returned v ∧ ∃ dd : List (TokW w P0), dd.map TokW.x = sortU (l0.map TokW.x) ∧ w'.ownsRow w.heap.size 24 1 v dd.length (encs TokW.v dd) ∧ RowKit.Below w.heap.size w w' := by
  generalize hl0 : l0.length = n0 at *
  have HL0 := Lib.hid hl0
  have HR0 := Lib.hid hR0
  have HWF := Lib.hid hwf
  have HLN := Lib.hid hln
  have HBIG := Lib.hid hbig
  have hb0 : n0 ≤ 140737488355328 := by omega
  clear hl0 hR0 hwf hln hbig
  go_enter Try.func17, Try.ntmps17
  go_wp2
  go_loopg [3, 4] n0 (fun kx s3 s4 wr => ∃ i : Nat, s4 = .int .i64 i ∧ i ≤ n0 ∧ n0 - i ≤ kx ∧ ∃ dd : List (TokW w P0), Hid (RowKit.Below w.heap.size w wr ∧ wr.ownsRow w.heap.size 24 1 s3 dd.length (encs TokW.v dd) ∧ dd.map TokW.x = sortU ((l0.take i).map TokW.x) ∧ dd.length ≤ i ∧ ∀ p ∈ dd, p ∈ l0))
  case atStart => exact ⟨0, rfl, Nat.zero_le _, by omega, [], (⟨RowKit.Below.refl _ _, ⟨rfl, .inl ⟨rfl, rfl⟩⟩, rfl, Nat.le_refl _, fun p hp => by simp at hp⟩ : RowKit.Below w.heap.size w w ∧ w.ownsRow w.heap.size 24 1 (.slice none 0 0) 0 [] ∧ _ ∧ _ ∧ _)⟩
  case round =>
    obtain ⟨i, rfl, hin, hk, dd, HS⟩ := hrel
    by_cases hi : i < n0
    · obtain ⟨li, hli⟩ : ∃ li, l0[i]? = some li := ⟨_, List.getElem?_eq_getElem (by rw [HL0.out]; exact hi)⟩
      have LI := Lib.hid hli
      obtain ⟨A3, c3, rfl, _, _, _⟩ := own_form HS.out.2.1
      have hd0 : dd.length ≤ n0 := Nat.le_trans HS.out.2.2.2.1 hin
      generalize hm0 : dd.length = m0 at *
      have HM0 := Lib.hid hm0
      clear hli hm0
      obtain ⟨ad, rfl, hcl⟩ : ∃ ad, A0 = some ad ∧ wr.cell? (ad.add i) = some li.v := by
        obtain ⟨ad, e, hc⟩ := HR0.out.2.2 (by omega)
        have h1 := hc i hi
        rw [List.getD_eq_getElem?_getD, LI.out] at h1
        exact ⟨ad, e, (HS.out.1.cell (World.block_lt_of_cell? w _ h1)).trans h1⟩
      obtain ⟨AL, cL, eL⟩ := li.sl
      have HLV : Hid (∀ (W : World) (g : Nat), W.heap.size = g → ReadsOf TokW.v default (W.alloc (.cells #[li.v] 24)) (some ⟨g, 0, none⟩) 1 [li]) := fun W g hg => ⟨rfl, by omega, fun _ => ⟨_, rfl, fun j hj => by
        obtain rfl : j = 0 := by omega
        subst hg; rw [add_plain]; simp⟩⟩
      have hadl : (ad.add i).block < wr.heap.size := World.block_lt_of_cell? wr _ hcl
      rw [eL] at hcl HLV
      have HCL := Lib.hid hcl
      have HADL := Lib.hid hadl
      clear hadl
      have BD : Hid (∀ n, RowKit.Below wr.heap.size wr (wr.drewN n)) := fun n => pw_below_drewN (RowKit.Below.refl _ wr) n
      have BA : Hid (∀ (W : World) o, RowKit.Below wr.heap.size wr W → RowKit.Below wr.heap.size wr (W.alloc o)) := fun W o h => h.alloc h.size o
      have hW : ∀ q k, P0 k → k < w.heap.size → (wr.drewN q).heap[k]? = w.heap[k]? := fun q k _ hk => HS.out.1.block k hk
      have HCA := own_cases HS.out.2.1 HM0.out
      have HB : ∀ (p : TokW w P0) q n, p ∈ dd → Calls Try.prog 22 #[p.v, li.v] (wr.drewN (q + n)) fun e w' => e = .returned (.bool (decide (ltT p.x li.x))) ∧ ∃ m, w' = wr.drewN (q + m) := fun p q n hp => (below_tok p li (HWF.out p (HS.out.2.2.2.2 p hp)) (HWF.out li (List.mem_of_getElem? LI.out)) (HLN.out p (HS.out.2.2.2.2 p hp)) _ (hW (q + n))).mono fun e w' h => ⟨h.1, by obtain ⟨m, rfl⟩ := h.2; exact ⟨n + m, by rw [World.drewN_drewN, Nat.add_assoc]⟩⟩
      have HE : ∀ (p : TokW w P0) q n, Calls Try.prog 21 #[p.v, li.v] (wr.drewN (q + n)) fun e w' => e = .returned (.bool (decide (byt p.x = byt li.x))) ∧ ∃ m, w' = wr.drewN (q + m) := fun p q n => (same_tok p li _ (hW (q + n))).mono fun e w' h => ⟨h.1, by obtain ⟨m, rfl⟩ := h.2; exact ⟨n + m, by rw [World.drewN_drewN, Nat.add_assoc]⟩⟩
      have HB' := Lib.hid HB
      have HE' := Lib.hid HE
      clear HB HE hW
      have EL := Lib.hid eL
      clear eL
      have h24 : (n0 + 1) * 24 ≤ 140737488355328 := HBIG.out
      rcases HCA with ⟨rfl, rfl, rfl⟩ | ⟨g, rfl, hmc, hgs, hcd⟩
      · have hdd : dd = [] := List.length_eq_zero_iff.1 HM0.out
        subst hdd
        have RD00 : Hid (∀ (W : World), ReadsOf TokW.v default W none 0 ([] : List (TokW w P0))) := fun W => ⟨rfl, by omega, fun h => by omega⟩
        have L1 : Hid ((0 + 0) * 24 ≤ 140737488355328) := by show _ ≤ _; omega
        have L2 : Hid ((0 + 1) * 24 ≤ 140737488355328) := by show _ ≤ _; omega
        have L3 : Hid ((1 + 0) * 24 ≤ 140737488355328) := by show _ ≤ _; omega
        have HNEW : Hid ([li].map TokW.x = sortU ((l0.take (i + 1)).map TokW.x)) := step_new (dd := []) (k := 0) HS.out.2.2.1 LI.out (Nat.le_refl _) (fun j p hj => by omega) (fun p hp => by simp at hp)
        go_wp2
        go_loopg [5] 0 (fun kx s5 wq => s5 = .int .i64 0 ∧ wq = wr)
        case atStart => exact ⟨rfl, rfl⟩
        case round =>
          obtain ⟨rfl, rfl⟩ := hrel
          go_wp2
          go_quiet (fail)
          go_wp2
          go_quiet (fail)
          go_wp2
          go_region_held3 (fun w' => w'.cell? (ad.add i) = some (.slice AL li.x.length cL)) (first | assumption | go_keep)
            (first
              | (refine step_app (w0 := w) wr.heap.size wr (by rfl) _ _ 22 rfl Try.underlying22 info24 (.slice (some ⟨_, 0, none⟩) 0 0) [] [] none 0 0 rfl rfl (by first | exact own0 (wr.drewN _) _ _ rfl (Nat.le_refl _) | exact (own0 (wr.drewN _) _ _ rfl (Nat.le_refl _)).alloc _ | exact own0 ((wr.drewN _).alloc _) _ _ (by simp) (by simp)) (RD00.out _) (by first | exact BD.out _ | exact BA.out _ _ (BD.out _) | exact BA.out _ _ (BA.out _ _ (BD.out _)) | exact HBW1.out | exact BA.out _ _ HBW1.out) (by first | exact (BD.out _).size | exact (BA.out _ _ (BD.out _)).size | exact (BA.out _ _ (BA.out _ _ (BD.out _))).size | exact (HBW1.out).size | exact (BA.out _ _ HBW1.out).size) L1.out ?_
                 intro v1 w1 ho1 hb1 hg1
                 have hcl1 := (hb1.cell HADL.out).trans HCL.out
                 have HO1 := Lib.hid ho1; have HBW1 := Lib.hid hb1; have HG1 := Lib.hid hg1; clear ho1 hb1 hg1)
              | (refine step_app (w0 := w) wr.heap.size wr (by rfl) _ _ 22 rfl Try.underlying22 info24 v1 [] [li] (some ⟨_, 0, none⟩) 1 1 rfl rfl (by first | exact HO1.out | exact HO1.out.alloc _) (by first | exact HLV.out w1 _ rfl | exact reads_far HG1.out (by simp [Value.ownBlock]) (HLV.out _ _ (by simp)) | exact reads_far HG1.out (by simp [Value.ownBlock]) (reads_alloc _ (HLV.out _ _ (by simp)))) (by first | exact HBW1.out | exact BA.out _ _ HBW1.out) (by first | exact HBW1.out.size | exact (BA.out _ _ HBW1.out).size) L2.out ?_
                 intro v2 w2 ho2 hb2 hg2
                 have hcl2 := (hb2.cell HADL.out).trans HCL.out
                 have HO2 := Lib.hid ho2; have HBW2 := Lib.hid hb2; clear ho2 hb2 hg2)
              | (refine step_app (w0 := w) wr.heap.size wr (by rfl) _ _ 22 rfl Try.underlying22 info24 v2 [li] [] none 0 0 rfl rfl HO2.out (RD00.out _) HBW2.out HBW2.out.size L2.out ?_
                 intro v3 w3 ho3 hb3 hg3
                 have hcl3 := (hb3.cell HADL.out).trans HCL.out
                 have HO3 := Lib.hid ho3; have HBW3 := Lib.hid hb3; clear ho3 hb3 hg3))
          all_goals
            go_wp2
            go_roundg (n0 - (i + 1))
            case measure => omega
            case rel =>
              have HN : Hid (RowKit.Below w.heap.size w w3 ∧ w3.ownsRow w.heap.size 24 1 v3 [li].length (encs TokW.v [li]) ∧ [li].map TokW.x = sortU ((l0.take (i + 1)).map TokW.x) ∧ [li].length ≤ i + 1 ∧ ∀ p ∈ [li], p ∈ l0) :=
                ⟨HS.out.1.trans (HBW3.out.mono HS.out.1.size), Joins.ownsRow_le HO3.out HS.out.1.size, HNEW.out, by simp, fun p hp => by rw [List.mem_singleton.1 hp]; exact List.mem_of_getElem? LI.out⟩
              exact ⟨i + 1, by push_cast; rfl, by omega, Nat.le_refl _, _, HN⟩
      · have HCD := Lib.hid hcd
        clear hcd
        go_wp2
        go_loopg [5] m0 (fun kx s5 wq => ∃ k q : Nat, s5 = .int .i64 k ∧ k ≤ m0 ∧ m0 - k ≤ kx ∧ wq = wr.drewN q ∧ Hid (∀ j p, j < k → dd[j]? = some p → ltT p.x li.x))
        case atStart => exact ⟨0, 0, rfl, Nat.zero_le _, by omega, rfl, (fun j p hj => absurd hj (Nat.not_lt_zero _) : ∀ j p, j < 0 → dd[j]? = some p → ltT p.x li.x)⟩
        case round =>
          obtain ⟨k, q, rfl, hkm, hgk, rfl, I⟩ := hrel
          have RT : Hid (∀ W : World, RowKit.Below wr.heap.size wr W → ReadsOf TokW.v default W (some ⟨g, 0, none⟩) k (dd.take k)) := fun W hb => reads_take HM0.out hkm (by omega) (fun e => by cases e) (fun ad' e j hj => by
            injection e with e; subst e
            rw [add_plain]
            exact (hb.cell (p := ⟨g, j, none⟩) hgs).trans (HCD.out j hj))
          have RD : Hid (∀ W : World, RowKit.Below wr.heap.size wr W → ReadsOf TokW.v default W (some ⟨g, k, none⟩) (m0 - k) (dd.drop k)) := fun W hb => reads_drop HM0.out hkm (by omega) (fun j hj => (hb.cell (p := ⟨g, j, none⟩) hgs).trans (HCD.out j hj))
          by_cases hkm2 : k < m0
          · obtain ⟨p, hp⟩ : ∃ p, dd[k]? = some p := ⟨_, List.getElem?_eq_getElem (by rw [HM0.out]; exact hkm2)⟩
            obtain ⟨AP, cP, hpv⟩ := p.sl
            have hcp := HCD.out k hkm2
            rw [List.getD_eq_getElem?_getD, hp] at hcp
            replace hcp : wr.cell? ⟨g, k, none⟩ = some p.v := hcp
            have HBk := fun n => HB'.out p q n (List.mem_of_getElem? hp)
            have HEk := fun q n => HE'.out p q n
            have HP := Lib.hid hp
            rw [hpv] at hcp
            rw [hpv, EL.out] at HBk HEk
            clear hp hpv
            by_cases hlt : ltT p.x li.x
            · simp only [hlt, decide_true] at HBk
              have HBk' := Lib.hid HBk
              have HLT := Lib.hid hlt
              clear HBk HEk hlt
              go_wp2
              go_quiet ((go_at_call 22; exact HBk'.out _))
              go_wp2
              go_roundg (m0 - (k + 1))
              case measure => omega
              case rel =>
                have I2 : Hid (∀ j p, j < k + 1 → dd[j]? = some p → ltT p.x li.x) := fun j p' hj hp' => by
                  rcases Nat.lt_or_ge j k with h | h
                  · exact I.out j p' h hp'
                  · have : j = k := by omega
                    subst this
                    rw [HP.out] at hp'
                    injection hp' with e
                    rw [← e]; exact HLT.out
                exact ⟨k + 1, _, rfl, by omega, Nat.le_refl _, rfl, I2⟩
            · simp only [hlt, decide_false] at HBk
              have HBk' := Lib.hid HBk
              have HNLT := Lib.hid hlt
              clear HBk hlt
              by_cases he : byt p.x = byt li.x
              · simp only [he, decide_true] at HEk
                have HEk' := Lib.hid HEk
                have HEQ := Lib.hid he
                clear HEk he
                go_wp2
                go_quiet ((go_at_call 22; exact HBk'.out _))
                go_wp2
                go_quiet ((go_at_call 21; exact HEk'.out _ _))
                go_wp2
                go_roundg (n0 - (i + 1))
                case measure => omega
                case rel =>
                  have HN : ∀ n, Hid (RowKit.Below w.heap.size w (wr.drewN n) ∧ (wr.drewN n).ownsRow w.heap.size 24 1 (.slice (some ⟨g, 0, none⟩) m0 c3) dd.length (encs TokW.v dd) ∧ dd.map TokW.x = sortU ((l0.take (i + 1)).map TokW.x) ∧ dd.length ≤ i + 1 ∧ ∀ p ∈ dd, p ∈ l0) := fun n =>
                    ⟨pw_below_drewN HS.out.1 n, by rw [HM0.out]; exact HS.out.2.1, step_same HS.out.2.2.1 LI.out (by rw [HM0.out]; exact hkm) I.out HP.out HNLT.out HEQ.out, by rw [HM0.out]; exact Nat.le_succ_of_le HS.out.2.2.2.1, HS.out.2.2.2.2⟩
                  exact ⟨i + 1, by push_cast; rfl, by omega, Nat.le_refl _, _, HN _⟩
              · simp only [he, decide_false] at HEk
                have HEk' := Lib.hid HEk
                have HNEQ := Lib.hid he
                clear HEk he
                go_wp2
                go_quiet ((go_at_call 22; exact HBk'.out _))
                go_wp2
                go_quiet ((go_at_call 21; exact HEk'.out _ _))
                go_wp2
                have hkc : k ≤ c3 := by omega
                have hkc2 : (k : Int) ≤ (c3 : Int) := by omega
                have hck : ¬ c3 = k := by omega
                have hkm3 : (k : Int) ≤ (m0 : Int) := by omega
                have L1 : Hid ((0 + k) * 24 ≤ 140737488355328) := by show _ ≤ _; omega
                have L2 : Hid ((k + 1) * 24 ≤ 140737488355328) := by show _ ≤ _; omega
                have L3 : Hid ((k + 1 + (m0 - k)) * 24 ≤ 140737488355328) := by show _ ≤ _; omega
                have LT : Hid ((dd.take k).length = k) := by show _ = _; rw [List.length_take]; have := HM0.out; omega
                go_region_held3 (fun w' => w'.cell? (ad.add i) = some (.slice AL li.x.length cL)) (first | assumption | go_keep)
                  (first
                    | (refine step_app (w0 := w) wr.heap.size wr (by rfl) _ _ 22 rfl Try.underlying22 info24 (.slice (some ⟨_, 0, none⟩) 0 0) [] (dd.take k) (some ⟨g, 0, none⟩) k c3 rfl rfl (by first | exact own0 (wr.drewN _) _ _ rfl (Nat.le_refl _) | exact (own0 (wr.drewN _) _ _ rfl (Nat.le_refl _)).alloc _ | exact own0 ((wr.drewN _).alloc _) _ _ (by simp) (by simp)) (RT.out _ (by first | exact BD.out _ | exact BA.out _ _ (BD.out _) | exact BA.out _ _ (BA.out _ _ (BD.out _)) | exact HBW1.out | exact BA.out _ _ HBW1.out)) (by first | exact BD.out _ | exact BA.out _ _ (BD.out _) | exact BA.out _ _ (BA.out _ _ (BD.out _)) | exact HBW1.out | exact BA.out _ _ HBW1.out) (by first | exact (BD.out _).size | exact (BA.out _ _ (BD.out _)).size | exact (BA.out _ _ (BA.out _ _ (BD.out _))).size | exact (HBW1.out).size | exact (BA.out _ _ HBW1.out).size) L1.out ?_
                       intro v1 w1 ho1 hb1 hg1
                       have hcl1 := (hb1.cell HADL.out).trans HCL.out
                       have HO1 := Lib.hid ho1; have HBW1 := Lib.hid hb1; have HG1 := Lib.hid hg1; clear ho1 hb1 hg1)
                    | (refine step_app (w0 := w) wr.heap.size wr (by rfl) _ _ 22 rfl Try.underlying22 info24 v1 (dd.take k) [li] (some ⟨_, 0, none⟩) 1 1 rfl rfl (by first | exact HO1.out | exact HO1.out.alloc _) (by first | exact HLV.out w1 _ rfl | exact reads_far HG1.out (by simp [Value.ownBlock]) (HLV.out _ _ (by simp)) | exact reads_far HG1.out (by simp [Value.ownBlock]) (reads_alloc _ (HLV.out _ _ (by simp)))) (by first | exact HBW1.out | exact BA.out _ _ HBW1.out) (by first | exact HBW1.out.size | exact (BA.out _ _ HBW1.out).size) (by rw [LT.out]; exact L2.out) ?_
                       intro v2 w2 ho2 hb2 hg2
                       have hcl2 := (hb2.cell HADL.out).trans HCL.out
                       have HO2 := Lib.hid ho2; have HBW2 := Lib.hid hb2; clear ho2 hb2 hg2)
                    | (refine step_app (w0 := w) wr.heap.size wr (by rfl) _ _ 22 rfl Try.underlying22 info24 v2 (dd.take k ++ [li]) (dd.drop k) (some ⟨g, k, none⟩) (m0 - k) (c3 - k) rfl rfl HO2.out (RD.out _ HBW2.out) HBW2.out HBW2.out.size (by rw [List.length_append, LT.out]; exact L3.out) ?_
                       intro v3 w3 ho3 hb3 hg3
                       have hcl3 := (hb3.cell HADL.out).trans HCL.out
                       have HO3 := Lib.hid ho3; have HBW3 := Lib.hid hb3; clear ho3 hb3 hg3))
                all_goals
                  go_wp2
                  go_roundg (n0 - (i + 1))
                  case measure => omega
                  case rel =>
                    have HN : Hid (RowKit.Below w.heap.size w w3 ∧ w3.ownsRow w.heap.size 24 1 v3 (dd.take k ++ [li] ++ dd.drop k).length (encs TokW.v (dd.take k ++ [li] ++ dd.drop k)) ∧ (dd.take k ++ [li] ++ dd.drop k).map TokW.x = sortU ((l0.take (i + 1)).map TokW.x) ∧ (dd.take k ++ [li] ++ dd.drop k).length ≤ i + 1 ∧ ∀ p ∈ dd.take k ++ [li] ++ dd.drop k, p ∈ l0) :=
                      ⟨HS.out.1.trans (HBW3.out.mono HS.out.1.size), Joins.ownsRow_le HO3.out HS.out.1.size, step_new HS.out.2.2.1 LI.out (by rw [HM0.out]; exact hkm) I.out (fun p' hp' => by rw [HP.out] at hp'; injection hp' with e; subst e; exact ⟨HNLT.out, HNEQ.out⟩), new_len (by rw [HM0.out]; exact hkm) (by rw [HM0.out]; exact HS.out.2.2.2.1), new_mem LI.out HS.out.2.2.2.2⟩
                    exact ⟨i + 1, by push_cast; rfl, by omega, Nat.le_refl _, _, HN⟩
          · go_wp2
            go_quiet (fail)
            go_wp2
            go_quiet (fail)
            go_wp2
            have hkc : k ≤ c3 := by omega
            have hkc2 : (k : Int) ≤ (c3 : Int) := by omega
            have RD0 : Hid (∀ (W : World) A, ReadsOf TokW.v default W A (m0 - k) (dd.drop k)) := fun W A => ⟨by rw [List.length_drop, HM0.out], by omega, fun h => by omega⟩
            by_cases hck : c3 = k
            · have hck' := hck.symm; clear hck; subst hck'
              have RD00 : Hid (∀ (W : World) A, ReadsOf TokW.v default W A 0 (dd.drop k)) := fun W A => ⟨by rw [List.length_drop, HM0.out]; omega, by omega, fun h => by omega⟩
              have hkm3 : (k : Int) ≤ (m0 : Int) := by omega
              have L1 : Hid ((0 + k) * 24 ≤ 140737488355328) := by show _ ≤ _; omega
              have L2 : Hid ((k + 1) * 24 ≤ 140737488355328) := by show _ ≤ _; omega
              have L3 : Hid ((k + 1 + (m0 - k)) * 24 ≤ 140737488355328) := by show _ ≤ _; omega
              have LT : Hid ((dd.take k).length = k) := by show _ = _; rw [List.length_take]; have := HM0.out; omega
              go_region_held3 (fun w' => w'.cell? (ad.add i) = some (.slice AL li.x.length cL)) (first | assumption | go_keep)
                (first
                  | (refine step_app (w0 := w) wr.heap.size wr (by rfl) _ _ 22 rfl Try.underlying22 info24 (.slice (some ⟨_, 0, none⟩) 0 0) [] (dd.take k) (some ⟨g, 0, none⟩) k _ rfl rfl (by first | exact own0 (wr.drewN _) _ _ rfl (Nat.le_refl _) | exact (own0 (wr.drewN _) _ _ rfl (Nat.le_refl _)).alloc _ | exact own0 ((wr.drewN _).alloc _) _ _ (by simp) (by simp)) (RT.out _ (by first | exact BD.out _ | exact BA.out _ _ (BD.out _) | exact BA.out _ _ (BA.out _ _ (BD.out _)) | exact HBW1.out | exact BA.out _ _ HBW1.out)) (by first | exact BD.out _ | exact BA.out _ _ (BD.out _) | exact BA.out _ _ (BA.out _ _ (BD.out _)) | exact HBW1.out | exact BA.out _ _ HBW1.out) (by first | exact (BD.out _).size | exact (BA.out _ _ (BD.out _)).size | exact (BA.out _ _ (BA.out _ _ (BD.out _))).size | exact (HBW1.out).size | exact (BA.out _ _ HBW1.out).size) L1.out ?_
                     intro v1 w1 ho1 hb1 hg1
                     have hcl1 := (hb1.cell HADL.out).trans HCL.out
                     have HO1 := Lib.hid ho1; have HBW1 := Lib.hid hb1; have HG1 := Lib.hid hg1; clear ho1 hb1 hg1)
                  | (refine step_app (w0 := w) wr.heap.size wr (by rfl) _ _ 22 rfl Try.underlying22 info24 v1 (dd.take k) [li] (some ⟨_, 0, none⟩) 1 1 rfl rfl (by first | exact HO1.out | exact HO1.out.alloc _) (by first | exact HLV.out w1 _ rfl | exact reads_far HG1.out (by simp [Value.ownBlock]) (HLV.out _ _ (by simp)) | exact reads_far HG1.out (by simp [Value.ownBlock]) (reads_alloc _ (HLV.out _ _ (by simp)))) (by first | exact HBW1.out | exact BA.out _ _ HBW1.out) (by first | exact HBW1.out.size | exact (BA.out _ _ HBW1.out).size) (by rw [LT.out]; exact L2.out) ?_
                     intro v2 w2 ho2 hb2 hg2
                     have hcl2 := (hb2.cell HADL.out).trans HCL.out
                     have HO2 := Lib.hid ho2; have HBW2 := Lib.hid hb2; clear ho2 hb2 hg2)
                  | (refine step_app (w0 := w) wr.heap.size wr (by rfl) _ _ 22 rfl Try.underlying22 info24 v2 (dd.take k ++ [li]) (dd.drop k) _ 0 _ rfl rfl HO2.out (RD00.out _ _) HBW2.out HBW2.out.size (by rw [List.length_append, LT.out]; exact L2.out) ?_
                     intro v3 w3 ho3 hb3 hg3
                     have hcl3 := (hb3.cell HADL.out).trans HCL.out
                     have HO3 := Lib.hid ho3; have HBW3 := Lib.hid hb3; clear ho3 hb3 hg3))
              all_goals
                go_wp2
                go_roundg (n0 - (i + 1))
                case measure => omega
                case rel =>
                  have HN : Hid (RowKit.Below w.heap.size w w3 ∧ w3.ownsRow w.heap.size 24 1 v3 (dd.take k ++ [li] ++ dd.drop k).length (encs TokW.v (dd.take k ++ [li] ++ dd.drop k)) ∧ (dd.take k ++ [li] ++ dd.drop k).map TokW.x = sortU ((l0.take (i + 1)).map TokW.x) ∧ (dd.take k ++ [li] ++ dd.drop k).length ≤ i + 1 ∧ ∀ p ∈ dd.take k ++ [li] ++ dd.drop k, p ∈ l0) :=
                    ⟨HS.out.1.trans (HBW3.out.mono HS.out.1.size), Joins.ownsRow_le HO3.out HS.out.1.size, step_new HS.out.2.2.1 LI.out (by rw [HM0.out]; exact hkm) I.out (fun p' hp' => by have := (List.getElem?_eq_some_iff.1 hp').1; have := HM0.out; omega), new_len (by rw [HM0.out]; exact hkm) (by rw [HM0.out]; exact HS.out.2.2.2.1), new_mem LI.out HS.out.2.2.2.2⟩
                  exact ⟨i + 1, by push_cast; rfl, by omega, Nat.le_refl _, _, HN⟩
            · have hkm3 : (k : Int) ≤ (m0 : Int) := by omega
              have L1 : Hid ((0 + k) * 24 ≤ 140737488355328) := by show _ ≤ _; omega
              have L2 : Hid ((k + 1) * 24 ≤ 140737488355328) := by show _ ≤ _; omega
              have L3 : Hid ((k + 1 + (m0 - k)) * 24 ≤ 140737488355328) := by show _ ≤ _; omega
              have LT : Hid ((dd.take k).length = k) := by show _ = _; rw [List.length_take]; have := HM0.out; omega
              go_region_held3 (fun w' => w'.cell? (ad.add i) = some (.slice AL li.x.length cL)) (first | assumption | go_keep)
                (first
                  | (refine step_app (w0 := w) wr.heap.size wr (by rfl) _ _ 22 rfl Try.underlying22 info24 (.slice (some ⟨_, 0, none⟩) 0 0) [] (dd.take k) (some ⟨g, 0, none⟩) k c3 rfl rfl (by first | exact own0 (wr.drewN _) _ _ rfl (Nat.le_refl _) | exact (own0 (wr.drewN _) _ _ rfl (Nat.le_refl _)).alloc _ | exact own0 ((wr.drewN _).alloc _) _ _ (by simp) (by simp)) (RT.out _ (by first | exact BD.out _ | exact BA.out _ _ (BD.out _) | exact BA.out _ _ (BA.out _ _ (BD.out _)) | exact HBW1.out | exact BA.out _ _ HBW1.out)) (by first | exact BD.out _ | exact BA.out _ _ (BD.out _) | exact BA.out _ _ (BA.out _ _ (BD.out _)) | exact HBW1.out | exact BA.out _ _ HBW1.out) (by first | exact (BD.out _).size | exact (BA.out _ _ (BD.out _)).size | exact (BA.out _ _ (BA.out _ _ (BD.out _))).size | exact (HBW1.out).size | exact (BA.out _ _ HBW1.out).size) L1.out ?_
                     intro v1 w1 ho1 hb1 hg1
                     have hcl1 := (hb1.cell HADL.out).trans HCL.out
                     have HO1 := Lib.hid ho1; have HBW1 := Lib.hid hb1; have HG1 := Lib.hid hg1; clear ho1 hb1 hg1)
                  | (refine step_app (w0 := w) wr.heap.size wr (by rfl) _ _ 22 rfl Try.underlying22 info24 v1 (dd.take k) [li] (some ⟨_, 0, none⟩) 1 1 rfl rfl (by first | exact HO1.out | exact HO1.out.alloc _) (by first | exact HLV.out w1 _ rfl | exact reads_far HG1.out (by simp [Value.ownBlock]) (HLV.out _ _ (by simp)) | exact reads_far HG1.out (by simp [Value.ownBlock]) (reads_alloc _ (HLV.out _ _ (by simp)))) (by first | exact HBW1.out | exact BA.out _ _ HBW1.out) (by first | exact HBW1.out.size | exact (BA.out _ _ HBW1.out).size) (by rw [LT.out]; exact L2.out) ?_
                     intro v2 w2 ho2 hb2 hg2
                     have hcl2 := (hb2.cell HADL.out).trans HCL.out
                     have HO2 := Lib.hid ho2; have HBW2 := Lib.hid hb2; clear ho2 hb2 hg2)
                  | (refine step_app (w0 := w) wr.heap.size wr (by rfl) _ _ 22 rfl Try.underlying22 info24 v2 (dd.take k ++ [li]) (dd.drop k) _ (m0 - k) _ rfl rfl HO2.out (RD0.out _ _) HBW2.out HBW2.out.size (by rw [List.length_append, LT.out]; exact L3.out) ?_
                     intro v3 w3 ho3 hb3 hg3
                     have hcl3 := (hb3.cell HADL.out).trans HCL.out
                     have HO3 := Lib.hid ho3; have HBW3 := Lib.hid hb3; clear ho3 hb3 hg3))
              all_goals
                go_wp2
                go_roundg (n0 - (i + 1))
                case measure => omega
                case rel =>
                  have HN : Hid (RowKit.Below w.heap.size w w3 ∧ w3.ownsRow w.heap.size 24 1 v3 (dd.take k ++ [li] ++ dd.drop k).length (encs TokW.v (dd.take k ++ [li] ++ dd.drop k)) ∧ (dd.take k ++ [li] ++ dd.drop k).map TokW.x = sortU ((l0.take (i + 1)).map TokW.x) ∧ (dd.take k ++ [li] ++ dd.drop k).length ≤ i + 1 ∧ ∀ p ∈ dd.take k ++ [li] ++ dd.drop k, p ∈ l0) :=
                    ⟨HS.out.1.trans (HBW3.out.mono HS.out.1.size), Joins.ownsRow_le HO3.out HS.out.1.size, step_new HS.out.2.2.1 LI.out (by rw [HM0.out]; exact hkm) I.out (fun p' hp' => by have := (List.getElem?_eq_some_iff.1 hp').1; have := HM0.out; omega), new_len (by rw [HM0.out]; exact hkm) (by rw [HM0.out]; exact HS.out.2.2.2.1), new_mem LI.out HS.out.2.2.2.2⟩
                  exact ⟨i + 1, by push_cast; rfl, by omega, Nat.le_refl _, _, HN⟩
    · obtain rfl : i = n0 := by omega
      go_wp2
      go_ret
      have h9 := HS.out.2.2.1
      rw [List.take_of_length_le (by rw [HL0.out]; exact Nat.le_refl _)] at h9
      exact ⟨_, rfl, dd, h9, HS.out.2.1, HS.out.1⟩
end Go.Proofs.Ytnaicfffplnebaa.Man
