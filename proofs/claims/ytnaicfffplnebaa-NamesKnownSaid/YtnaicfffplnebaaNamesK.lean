/- The contract of tattingref1.Sort: rows share their tokens' blocks. -/
import Derived.Test.YtnaicfffplnebaaNamesJ
namespace Go.Proofs.Ytnaicfffplnebaa.Man
open Go.RowKit Go.Sort Go.Lib Go.Proofs.YtnaicfffplnebaaW.PrintWords Go.Proofs.YtnaicfffplnebaaW.PrintLast Go.Proofs.YtnaicfffplnebaaW.PrintMore

theorem V_toksW {w w' : World} {P0 : Nat → Prop} {v : Value} {dd : List (TokW w P0)} (ho : w'.ownsRow w.heap.size 24 1 v dd.length (encs TokW.v dd)) (hb : RowKit.Below w.heap.size w w') :
    Kd.V (Kd.slice 5 (Kd.int .u8)) 24 w' w.heap.size (fun k_ => P0 k_ ∨ w.heap.size ≤ k_) v (dd.map TokW.x) := by
  obtain ⟨A, c, rfl, hA, hA0, hc⟩ := own_form ho
  have hl : (dd.map TokW.x).length = dd.length := List.length_map ..
  have hm : dd.length ≤ 9223372036854775807 := by
    rcases ho.2 with ⟨_, h1⟩ | ⟨g', cap', cur, he, _, _, h1, h2, _⟩
    · omega
    · simp only [maxLen] at h2; omega
  refine ⟨A, c, by rw [hl], by rw [hl]; exact hc, fun W' hW' => ⟨rfl, by rw [hl]; exact hm, fun hp => ?_⟩⟩
  rw [hl] at hp
  cases A with
  | none => have := hA0 rfl; omega
  | some ad =>
    refine ⟨ad, rfl, fun j x hj => ?_⟩
    rw [List.getElem?_map] at hj
    obtain ⟨p, hp, rfl⟩ := Option.map_eq_some_iff.1 hj
    refine ⟨[p.v], rfl, ?_, fun i u hu => ?_⟩
    · obtain ⟨A1, c1, e, hl1, hC1⟩ := p.form W' (fun k hk hkl => (hW' k (.inl hk) (Nat.lt_of_lt_of_le hkl hb.size)).trans (hb.block k hkl))
      exact ⟨A1, c1, by rw [e], hl1, hC1⟩
    · have hi0 : i = 0 := by
        have := (List.getElem?_eq_some_iff.1 hu).1
        simpa using this
      subst hi0
      have hu' : p.v = u := by simpa using hu
      subst hu'
      have h3 := hA ad rfl
      have h4 := h3.2.2 j p.v (by rw [show encs TokW.v dd = dd.map TokW.v from rfl, List.getElem?_map, hp]; rfl)
      rw [show j * (Kd.slice 5 (Kd.int .u8)).sz + 0 = j from Nat.mul_one j]
      have hbk : (ad.add j).block = ad.block := by unfold Addr.add; split <;> rfl
      exact (World.cell?_of_block (w := w') (by rw [hbk]; exact hW' _ (.inr h3.1) h3.2.1)).trans h4

/-- tattingref1.Sort as a Lean function. -/
def tattingref1_Sort.f (l : List (List Int)) : Option (List (List Int)) :=
  if (l.length + 1) * 24 ≤ 140737488355328 ∧ (l.all fun x => wfB x && decide (x.length ≤ 140737488355328)) = true then some (sortU l) else none
theorem tattingref1_Sort.calls (P0_ : Nat → Prop) (A0 : Option Addr) (c0 : Nat) (l0 : List (List Int)) (r : List (List Int)) (w : World) (hs0 : Kd.V (Kd.slice 5 (Kd.int .u8)) 24 w w.heap.size P0_ (.slice A0 l0.length c0) l0) (h : tattingref1_Sort.f l0 = some r) :
    Calls Try.prog 17 #[.slice A0 l0.length c0] w fun e w' => ∃ v0_ : Value, e = .returned (v0_) ∧ Kd.V (Kd.slice 5 (Kd.int .u8)) 24 w' w.heap.size (fun k_ => P0_ k_ ∨ w.heap.size ≤ k_) v0_ r ∧ RowKit.Below w.heap.size w w' := by
  unfold tattingref1_Sort.f at h
  split at h
  · rename_i hc
    injection h with h
    obtain ⟨hb, ha⟩ := hc
    rw [List.all_eq_true] at ha
    obtain ⟨d, rfl, hR⟩ := toksW hs0
    have hdl : (d.map TokW.x).length = d.length := List.length_map ..
    rw [hdl] at hb ⊢
    refine (refSort_walk A0 c0 d hR hb (fun p hp => ?_) (fun p hp => ?_)).mono ?_
    · have := ha p.x (List.mem_map_of_mem hp); simp at this; exact this.1
    · have := ha p.x (List.mem_map_of_mem hp); simp at this; exact this.2
    · rintro e w' ⟨v, rfl, dd, hx, ho, hbl⟩
      refine ⟨v, rfl, ?_, hbl⟩
      rw [← h, ← hx]
      exact V_toksW ho hbl
  · cases h
/-- names.Ids, as printed. -/
def names_Ids.f (k : Nat) (d l : List (List Int)) : Option (List Int × Bool) := PIds.names_Ids.f k d l
theorem names_Ids.mono : ∀ a0 a1 k, LeO (names_Ids.f k a0 a1) (names_Ids.f (k + 1) a0 a1) := PIds.names_Ids.mono
theorem names_Ids.calls (k : Nat) (A0 : Option Addr) (c0 : Nat) (l0 : List (List Int)) (A1 : Option Addr) (c1 : Nat) (l1 : List (List Int)) (r1 : List Int) (r2 : Bool) (w : World) (hr0 : Kd.C (Kd.slice 5 (Kd.int .u8)) w A0 l0.length l0) (hc0 : l0.length ≤ c0) (hr1 : Kd.C (Kd.slice 5 (Kd.int .u8)) w A1 l1.length l1) (hc1 : l1.length ≤ c1) (h : names_Ids.f k l0 l1 = some (r1, r2)) :
    Calls Try.prog 11 #[.slice A0 l0.length c0, .slice A1 l1.length c1] w fun e w' => ∃ v0_ : Value, e = .returned (.tuple #[v0_, .bool r2]) ∧ Kd.R (Kd.int .i64) 3 w' w.heap.size (fun _ => True) v0_ r1 ∧ RowKit.Below w.heap.size w w' := PIds.names_Ids.calls k A0 c0 l0 A1 c1 l1 r1 r2 w hr0 hc0 hr1 hc1 h
/-- tattingref1.Below, as printed. -/
def tattingref1_Below.f (k : Nat) (x y : List Int) : Option Bool := PIds.tattingref1_Below.f k x y
theorem tattingref1_Below.mono : ∀ a0 a1 k, LeO (tattingref1_Below.f k a0 a1) (tattingref1_Below.f (k + 1) a0 a1) := PIds.tattingref1_Below.mono
theorem tattingref1_Below.calls (k : Nat) (A0 : Option Addr) (c0 : Nat) (l0 : List Int) (A1 : Option Addr) (c1 : Nat) (l1 : List Int) (r : Bool) (w : World) (hr0 : Kd.C (Kd.int .u8) w A0 l0.length l0) (hc0 : l0.length ≤ c0) (hr1 : Kd.C (Kd.int .u8) w A1 l1.length l1) (hc1 : l1.length ≤ c1) (h : tattingref1_Below.f k l0 l1 = some r) :
    Calls Try.prog 22 #[.slice A0 l0.length c0, .slice A1 l1.length c1] w fun e w' => e = .returned (.bool r) ∧ Drawn0 w w' := PIds.tattingref1_Below.calls k A0 c0 l0 A1 c1 l1 r w hr0 hc0 hr1 hc1 h
end Go.Proofs.Ytnaicfffplnebaa.Man
