/- names.Find over rising tokens. -/
import Derived.Test.YtnaicfffplnebaaNamesE
namespace Go.Proofs.Ytnaicfffplnebaa.Man
open Go.RowKit Go.Sort Go.Lib Go.Proofs.YtnaicfffplnebaaW.PrintWords Go.Proofs.YtnaicfffplnebaaW.PrintLast Go.Proofs.YtnaicfffplnebaaW.PrintMore

theorem bytes_Compare_same (A0 : Option Addr) (c0 : Nat) (l0 : List Int) (A1 : Option Addr) (c1 : Nat) (l1 : List Int) (w : World) (hr0 : Kd.C (Kd.int .u8) w A0 l0.length l0) (hr1 : Kd.C (Kd.int .u8) w A1 l1.length l1) :
    Calls Try.prog 25 #[.slice A0 l0.length c0, .slice A1 l1.length c1] w fun e w' => e = .returned (.int .i64 (cmpB (byt l0) (byt l1))) ∧ ∃ m, w' = w.drewN m := by
  refine (bytes_Compare.calls A0 c0 l0 A1 c1 l1 _ w hr0 hr1 rfl).mono ?_
  rintro e w' ⟨rfl, ⟨n, rfl⟩⟩
  exact ⟨rfl, n, rfl⟩

set_option maxHeartbeats 4000000 in
set_option maxRecDepth 100000 in
/-- slices.BinarySearchFunc over tokens of which those that are below t stand ahead of the others. -/
theorem bsearch {w0 : World} (A0 : Option Addr) (c0 : Nat) (d : List (TokV w0)) (A1 : Option Addr) (c1 : Nat) (t : List Int) (hcell : ∀ ad, A0 = some ad → ∀ j u, (d.map TokV.v)[j]? = some u → w0.cell? (ad.add j) = some u) (hA0 : A0 = none → d = [])
    (hr1 : Kd.C (Kd.int .u8) w0 A1 t.length t) (hlen : d.length ≤ 4611686018427387904) (hmono : ∀ a b, a ≤ b → b < d.length → ltT (d.toArray[b]!).x t → ltT (d.toArray[a]!).x t) :
    Calls Try.prog 29 #[.slice A0 d.length c0, .slice A1 t.length c1, .func (.func 25) #[] #[]] w0 fun e w' => ∃ i : Nat, e = .returned (.tuple #[.int .i64 i, .bool (decide (i < d.length) && decide (cmpB (byt (d.toArray[i]!).x) (byt t) = 0))]) ∧ i ≤ d.length ∧ (∀ j, j < i → ltT (d.toArray[j]!).x t) ∧ (∀ j, i ≤ j → j < d.length → ¬ ltT (d.toArray[j]!).x t) ∧ ∃ m, w' = w0.drewN m := by
  have hcmp : ∀ (p : TokV w0) (n : Nat), ∃ A c, p.v = .slice A p.x.length c ∧ Calls Try.prog 25 #[.slice A p.x.length c, .slice A1 t.length c1] (w0.drewN n) fun e w' => e = .returned (.int .i64 (cmpB (byt p.x) (byt t))) ∧ ∃ m, w' = w0.drewN m := by
    intro p n
    obtain ⟨A, c, e, _, hC⟩ := p.tok (w0.drewN n) (fun _ _ => rfl)
    refine ⟨A, c, e, (bytes_Compare_same A c p.x A1 c1 t (w0.drewN n) hC hr1).mono ?_⟩
    rintro e w' ⟨rfl, m, rfl⟩
    exact ⟨rfl, n + m, World.drewN_drewN _ _ _⟩
  have HC := Lib.hid hcmp
  have HCELL := Lib.hid hcell
  have HA0 := Lib.hid hA0
  have M := Lib.hid hmono
  clear hcmp hcell hA0 hmono hr1
  go_enter Try.func29, Try.ntmps29
  go_wp2
  go_loopg [9, 10] d.length (fun kx s9 s10 wr => ∃ lo hi q : Nat, s9 = .int .i64 lo ∧ s10 = .int .i64 hi ∧ lo ≤ hi ∧ hi ≤ d.length ∧ hi - lo ≤ kx ∧ wr = w0.drewN q ∧
    Hid ((∀ j, j < lo → ltT (d.toArray[j]!).x t) ∧ (∀ j, hi ≤ j → j < d.length → ¬ ltT (d.toArray[j]!).x t)))
  case atStart => exact ⟨0, d.length, 0, rfl, rfl, Nat.zero_le _, Nat.le_refl _, by omega, rfl, (⟨fun j hj => absurd hj (Nat.not_lt_zero _), fun j h1 h2 => by omega⟩ : (∀ j, j < 0 → ltT (d.toArray[j]!).x t) ∧ (∀ j, d.length ≤ j → j < d.length → ¬ ltT (d.toArray[j]!).x t))⟩
  case round =>
    obtain ⟨lo, hi, q, rfl, rfl, hlh, hin, hg, rfl, I⟩ := hrel
    by_cases hlt : lo < hi
    · obtain ⟨ad, rfl⟩ : ∃ ad, A0 = some ad := by
        cases A0 with
        | none => have := HA0.out rfl; subst this; simp at hin; omega
        | some ad => exact ⟨ad, rfl⟩
      have hm : (lo + hi) / 2 < d.length := by omega
      have cm := HCELL.out ad rfl ((lo + hi) / 2) (d.toArray[(lo + hi) / 2]!).v (by rw [getElem!_pos d.toArray _ (by simpa using hm)]; simp [hm])
      generalize hy : d.toArray[(lo + hi) / 2]! = y at cm
      have Y := Lib.hid hy
      clear hy
      have hc := fun n => HC.out y n
      obtain ⟨A, c, e, _⟩ := hc 0
      have hc' : ∀ n, Calls Try.prog 25 #[.slice A y.x.length c, .slice A1 t.length c1] (w0.drewN n) fun e w' => e = .returned (.int .i64 (cmpB (byt y.x) (byt t))) ∧ ∃ m, w' = w0.drewN m := by
        intro n
        obtain ⟨A', c', e', h'⟩ := hc n
        rw [e] at e'
        injection e' with e1 _ e3
        subst e1 e3
        exact h'
      rw [e] at cm
      have HC' := Lib.hid hc'
      clear hc hc' e
      by_cases hyx : cmpB (byt y.x) (byt t) < 0
      · go_wp2_with (go_at_call 25; refine (HC'.out _).mono ?_; rintro e w' ⟨rfl, nq, rfl⟩)
        go_roundg (hi - ((lo + hi) / 2 + 1))
        case measure => omega
        case rel =>
          have I2 : Hid ((∀ j, j < (lo + hi) / 2 + 1 → ltT (d.toArray[j]!).x t) ∧ (∀ j, hi ≤ j → j < d.length → ¬ ltT (d.toArray[j]!).x t)) := ⟨fun j hj => M.out j ((lo + hi) / 2) (by omega) (by omega) (by rw [Y.out]; exact hyx), I.out.2⟩
          exact ⟨(lo + hi) / 2 + 1, hi, nq, by rw [show ((lo : Int) + (hi : Int)) / 2 + 1 = (((lo + hi) / 2 + 1 : Nat) : Int) by omega], rfl, by omega, hin, Nat.le_refl _, rfl, I2⟩
      · go_wp2_with (go_at_call 25; refine (HC'.out _).mono ?_; rintro e w' ⟨rfl, nq, rfl⟩)
        go_roundg ((lo + hi) / 2 - lo)
        case measure => omega
        case rel =>
          have I2 : Hid ((∀ j, j < lo → ltT (d.toArray[j]!).x t) ∧ (∀ j, (lo + hi) / 2 ≤ j → j < d.length → ¬ ltT (d.toArray[j]!).x t)) := ⟨I.out.1, fun j hj hjn h => by have := M.out ((lo + hi) / 2) j hj hjn h; rw [Y.out] at this; exact absurd this (Int.not_lt.2 hyx)⟩
          exact ⟨lo, (lo + hi) / 2, nq, rfl, by rw [show ((lo : Int) + (hi : Int)) / 2 = (((lo + hi) / 2 : Nat) : Int) by omega], by omega, by omega, Nat.le_refl _, rfl, I2⟩
    · obtain rfl : hi = lo := by omega
      by_cases hn : hi < d.length
      · obtain ⟨ad, rfl⟩ : ∃ ad, A0 = some ad := by
          cases A0 with
          | none => have := HA0.out rfl; subst this; simp at hn
          | some ad => exact ⟨ad, rfl⟩
        have cm := HCELL.out ad rfl hi (d.toArray[hi]!).v (by rw [getElem!_pos d.toArray _ (by simpa using hn)]; simp [hn])
        generalize hy : d.toArray[hi]! = y at cm
        have Y := Lib.hid hy
        clear hy
        have hc := fun n => HC.out y n
        obtain ⟨A, c, e, _⟩ := hc 0
        have hc' : ∀ n, Calls Try.prog 25 #[.slice A y.x.length c, .slice A1 t.length c1] (w0.drewN n) fun e w' => e = .returned (.int .i64 (cmpB (byt y.x) (byt t))) ∧ ∃ m, w' = w0.drewN m := by
          intro n
          obtain ⟨A', c', e', h'⟩ := hc n
          rw [e] at e'
          injection e' with e1 _ e3
          subst e1 e3
          exact h'
        rw [e] at cm
        have HC' := Lib.hid hc'
        clear hc hc' e
        by_cases hyx : cmpB (byt y.x) (byt t) = 0
        · go_wp2_with (go_at_call 25; refine (HC'.out _).mono ?_; rintro e w' ⟨rfl, nq, rfl⟩)
          go_ret2
          exact ⟨hi, by rw [Y.out]; simp [hn, hyx], by omega, I.out.1, I.out.2, _, rfl⟩
        · go_wp2_with (go_at_call 25; refine (HC'.out _).mono ?_; rintro e w' ⟨rfl, nq, rfl⟩)
          go_ret2
          exact ⟨hi, by rw [Y.out]; simp [hn, hyx], by omega, I.out.1, I.out.2, _, rfl⟩
      · go_wp2
        go_ret2
        exact ⟨hi, by simp [hn], by omega, I.out.1, I.out.2, _, rfl⟩

/-- names.Find as a Lean function: of tokens of which those that are below t stand ahead of the others. -/
def names_Find.f (d : List (List Int)) (t : List Int) : Option (Int × Bool) :=
  let i := (d.takeWhile fun x => decide (ltT x t)).length
  if (d.drop i).any (fun x => decide (ltT x t)) = true ∨ ¬ d.length ≤ 4611686018427387904 then none else
    match d[i]? with
    | some x => if byt x = byt t then some ((i : Int), true) else some (0, false)
    | none => some (0, false)
theorem takeWhile_get {α : Type} (p : α → Bool) : ∀ (l : List α) (j : Nat), j < (l.takeWhile p).length → ∃ x, l[j]? = some x ∧ p x = true
  | [], j, h => by simp at h
  | x :: l, j, h => by
    rw [List.takeWhile_cons] at h
    split at h
    · rename_i hx
      cases j with
      | zero => exact ⟨x, rfl, hx⟩
      | succ j =>
        obtain ⟨y, hy, hp⟩ := takeWhile_get p l j (by simpa using h)
        exact ⟨y, by simpa using hy, hp⟩
    · simp at h
theorem names_Find.calls (A0 : Option Addr) (c0 : Nat) (l0 : List (List Int)) (A1 : Option Addr) (c1 : Nat) (l1 : List Int) (r1 : Int) (r2 : Bool) (w : World) (hr0 : Kd.C (Kd.slice 5 (Kd.int .u8)) w A0 l0.length l0) (_hc0 : l0.length ≤ c0) (hr1 : Kd.C (Kd.int .u8) w A1 l1.length l1) (_hc1 : l1.length ≤ c1) (h : names_Find.f l0 l1 = some (r1, r2)) :
    Calls Try.prog 10 #[.slice A0 l0.length c0, .slice A1 l1.length c1] w fun e w' => e = .returned (.tuple #[.int .i64 r1, .bool r2]) ∧ Drawn0 w w' := by
  obtain ⟨d, hdx, hdv⟩ := toks_of_C hr0
  have hdl : d.length = l0.length := by rw [← hdx]; simp
  have hget : ∀ j, j < d.length → l0[j]? = some (d.toArray[j]!).x := by
    intro j hj
    rw [← hdx, List.getElem?_map, getElem!_pos d.toArray j (by simpa using hj), List.getElem?_eq_getElem hj]
    simp
  unfold names_Find.f at h
  simp only [] at h
  generalize hi0 : (l0.takeWhile fun x => decide (ltT x l1)).length = i0 at h
  have hi0l : i0 ≤ l0.length := by rw [← hi0]; exact (List.takeWhile_prefix _).length_le
  split at h
  · cases h
  · rename_i hno
    have hno1 : (l0.drop i0).any (fun x => decide (ltT x l1)) = false := Bool.eq_false_iff.2 fun e => hno (.inl e)
    have hlen : l0.length ≤ 4611686018427387904 := Decidable.byContradiction fun e => hno (.inr e)
    have hlo : ∀ j, j < i0 → ltT (d.toArray[j]!).x l1 := by
      intro j hj
      obtain ⟨x, hx, hp⟩ := takeWhile_get (fun x => decide (ltT x l1)) l0 j (by rw [hi0]; exact hj)
      rw [hget j (by omega)] at hx
      injection hx with hx
      rw [hx]
      exact of_decide_eq_true hp
    have hhi : ∀ j, i0 ≤ j → j < d.length → ¬ ltT (d.toArray[j]!).x l1 := by
      intro j hj hjl hlt
      rw [List.any_eq_false] at hno1
      refine hno1 (d.toArray[j]!).x ?_ (decide_eq_true hlt)
      refine List.mem_iff_getElem?.2 ⟨j - i0, ?_⟩
      rw [List.getElem?_drop, show i0 + (j - i0) = j by omega]
      exact hget j hjl
    have hb := bsearch A0 c0 d A1 c1 l1 hdv (fun hA => by
      rcases Nat.eq_zero_or_pos l0.length with h | h
      · exact List.length_eq_zero_iff.1 (by omega)
      · obtain ⟨ad, had, _⟩ := hr0.2.2 h
        rw [hA] at had; cases had) hr1 (by omega) (fun a b hab hbl hlt => by
      rcases Nat.lt_or_ge b i0 with hb | hb
      · exact hlo a (by omega)
      · exact absurd hlt (hhi b hb hbl))
    rw [hdl] at hb
    have hb2 : Calls Try.prog 29 #[.slice A0 l0.length c0, .slice A1 l1.length c1, .func (.func 25) #[] #[]] w fun e w' => (∃ i : Nat, e = .returned (.tuple #[.int .i64 i, .bool r2]) ∧ (r2 = true → (i : Int) = r1) ∧ (r2 = false → r1 = 0)) ∧ ∃ m, w' = w.drewN m := by
      refine hb.mono ?_
      rintro e w' ⟨i, rfl, hil, h1, h2, hw⟩
      have hii : i = i0 := by
        rcases Nat.lt_trichotomy i i0 with hlt | heq | hgt
        · exact absurd (hlo i hlt) (h2 i (Nat.le_refl _) (by omega))
        · exact heq
        · exact absurd (h1 i0 hgt) (hhi i0 (Nat.le_refl _) (by omega))
      subst hii
      refine ⟨⟨i, ?_, ?_⟩, hw⟩
      · congr 1
        by_cases hl : i < l0.length
        · rw [hget i (by omega)] at h
          simp only at h
          split at h
          · rename_i he
            injection h with h; injection h with _ h
            rw [he, cmpB_self, ← h]; simp [hl]
          · rename_i he
            injection h with h; injection h with _ h
            have : cmpB (byt (d.toArray[i]!).x) (byt l1) ≠ 0 := fun e => he (cmpB_eq e)
            rw [← h, decide_eq_false this, Bool.and_false]
        · rw [List.getElem?_eq_none (by omega)] at h
          injection h with h; injection h with _ h
          rw [← h]; simp [hl]
      · constructor
        · intro hr
          subst hr
          split at h
          · split at h
            · injection h with h; injection h with h _
            · injection h with h; injection h with _ h; cases h
          · injection h with h; injection h with _ h; cases h
        · intro hr
          subst hr
          split at h
          · split at h
            · injection h with h; injection h with _ h; cases h
            · injection h with h; injection h with h _; exact h.symm
          · injection h with h; injection h with h _; exact h.symm
    clear hb hlo hhi hno1 hno h hdv hget hr0 hr1 hdx hdl
    have HB := Lib.hid hb2
    clear hb2
    cases r2 with
    | true =>
      go_enter Try.func10, Try.ntmps10
      go_wp2_with (go_at_call 29; refine HB.out.mono ?_; rintro e w' ⟨⟨i, rfl, hi1, _⟩, m, rfl⟩; have HI := Lib.hid (hi1 rfl); clear hi1)
      go_ret2
      exact ⟨by rw [← HI.out]; rfl, ⟨_, rfl⟩⟩
    | false =>
      go_enter Try.func10, Try.ntmps10
      go_wp2_with (go_at_call 29; refine HB.out.mono ?_; rintro e w' ⟨⟨i, rfl, _, hi1⟩, m, rfl⟩; have HI := Lib.hid (hi1 rfl); clear hi1)
      go_ret2
      exact ⟨by rw [HI.out]; rfl, ⟨_, rfl⟩⟩
end Go.Proofs.Ytnaicfffplnebaa.Man
