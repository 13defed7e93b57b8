/- What the document tells of names: the closed law. -/
import Derived.Test.YtnaicfffplnebaaNamesL
namespace Go.Proofs.Ytnaicfffplnebaa.Man
open Go.RowKit Go.Sort Go.Lib Go.Proofs.YtnaicfffplnebaaW.PrintWords Go.Proofs.YtnaicfffplnebaaW.PrintLast Go.Proofs.YtnaicfffplnebaaW.PrintMore

/-- The bytes of a token that lies in the block b. -/
def Has (W : World) (b : Nat) (x : List Int) : Prop := ∀ j p, x[j]? = some p → W.cell? ⟨b, j, none⟩ = some (.int .u8 p)
theorem has_lit (W : World) (x : List Int) : Has (litW W (x.map (Value.int .u8)).toArray) W.heap.size x := by
  intro j p hj
  rw [litW_cell]
  simp [hj]
theorem Has.lit {W : World} {b : Nat} {x : List Int} (h : Has W b x) (cs : Array Value) : Has (litW W cs) b x := fun j p hj => cell_lit cs (h j p hj)
theorem Has.al {W : World} {b : Nat} {x : List Int} (h : Has W b x) (o : Obj) : Has (W.alloc o) b x := fun j p hj => cell_al o (h j p hj)
theorem has_nil (W : World) (b : Nat) : Has W b [] := fun j p hj => by cases hj
theorem C_has {W : World} {b : Nat} {x : List Int} (h : Has W b x) (hl : x.length ≤ 1000) : Kd.C (Kd.int .u8) W (some ⟨b, 0, none⟩) x.length x := by
  refine ⟨rfl, by omega, fun _ => ⟨_, rfl, fun j p hj => ⟨[.int .u8 p], rfl, rfl, fun i u hu => ?_⟩⟩⟩
  have hi0 : i = 0 := by
    have := (List.getElem?_eq_some_iff.1 hu).1
    simpa using this
  subst hi0
  have h2 : Value.int .u8 p = u := by simpa using hu
  subst h2
  have := h j p hj
  rw [show (Kd.int .u8).sz = 1 by rfl, Nat.mul_one, Nat.add_zero]
  unfold Addr.add
  by_cases hj0 : j = 0
  · subst hj0; exact this
  · rw [if_neg hj0]; simpa using this
/-- A list of tokens that is written down. -/
theorem toks_new (W : World) (B : Nat) (hB : W.heap.size = B) (hs : List (Nat × List Int)) (hn : hs.length ≤ 1000) (hh : ∀ p ∈ hs, Has W p.1 p.2 ∧ p.2.length ≤ 1000) (cs : Array Value) (hcs : cs = (hs.map fun p => Value.slice (some ⟨p.1, 0, none⟩) p.2.length p.2.length).toArray) :
    Kd.C (Kd.slice 5 (Kd.int .u8)) (W.alloc (.cells cs 24)) (some ⟨B, 0, none⟩) hs.length (hs.map Prod.snd) := by
  subst hB
  refine ⟨by simp, by omega, fun _ => ⟨_, rfl, fun j p hj => ?_⟩⟩
  rw [List.getElem?_map] at hj
  obtain ⟨q, hq, rfl⟩ := Option.map_eq_some_iff.1 hj
  have hm := hh q (List.mem_of_getElem? hq)
  refine ⟨[.slice (some ⟨q.1, 0, none⟩) q.2.length q.2.length], rfl, ⟨_, _, rfl, Nat.le_refl _, C_has (hm.1.al _) hm.2⟩, fun i u hu => ?_⟩
  have hi0 : i = 0 := by
    have := (List.getElem?_eq_some_iff.1 hu).1
    simpa using this
  subst hi0
  have h2 : Value.slice (some ⟨q.1, 0, none⟩) q.2.length q.2.length = u := by simpa using hu
  subst h2
  have hc : (W.alloc (.cells cs 24)).cell? ⟨W.heap.size, j, none⟩ = cs[j]? := cell_new _ _ _ _
  have hv : cs[j]? = some (.slice (some ⟨q.1, 0, none⟩) q.2.length q.2.length) := by rw [hcs]; simp [hq]
  rw [hv] at hc
  rw [show (Kd.slice 5 (Kd.int .u8)).sz = 1 by rfl, Nat.mul_one, Nat.add_zero]
  unfold Addr.add
  by_cases hj0 : j = 0
  · subst hj0; exact hc
  · rw [if_neg hj0]; simpa using hc

/-- The tokens of the document, sorted, each once. -/
def dToks : List (List Int) := [[], [97], [97, 98], [98]]
/-- What is known between two calls. -/
structure KN (w0 : World) (a : Addr) (c : Nat) (w : World) : Prop where
  below : RowKit.Below w0.heap.size w0 w
  cap : 4 ≤ c
  toks : Kd.C (Kd.slice 5 (Kd.int .u8)) w (some a) 4 dToks
structure KM (w0 : World) (a : Addr) (c : Nat) (B : Option Addr) (cB : Nat) (w : World) : Prop where
  kn : KN w0 a c w
  cap : 2 ≤ cB
  ids : Kd.C (Kd.int .i64) w B 2 [3, 0]
theorem KN.go {w0 w w' : World} {a : Addr} {c : Nat} (h : KN w0 a c w) (b : RowKit.Below w.heap.size w w') : KN w0 a c w' :=
  ⟨h.below.trans (b.mono h.below.size), h.cap, Kd.C_below h.toks b⟩
theorem KM.go {w0 w w' : World} {a : Addr} {c : Nat} {B : Option Addr} {cB : Nat} (h : KM w0 a c B cB w) (b : RowKit.Below w.heap.size w w') : KM w0 a c B cB w' :=
  ⟨h.kn.go b, h.cap, Kd.C_below h.ids b⟩
theorem below_lit {w W : World} (b : RowKit.Below w.heap.size w W) (cs : Array Value) : RowKit.Below w.heap.size w (litW W cs) := b.trans ((litW_below W cs).mono b.size)
theorem below_al {w W : World} (b : RowKit.Below w.heap.size w W) (o : Obj) : RowKit.Below w.heap.size w (W.alloc o) := b.alloc b.size o

def kS1 (w : World) : World := litW w #[.int .u8 97, .int .u8 98]
def kS2 (w : World) : World := litW (kS1 w) #[.int .u8 98]
def kS3 (w : World) : World := litW (kS2 w) #[.int .u8 97]
def kS4 (w : World) : World := litW (kS3 w) #[.int .u8 97, .int .u8 98]
def kS5 (w : World) : World := (kS4 w).alloc (.cells #[] 5)
def kSo (w : World) : Obj := .cells #[.slice (some ⟨w.heap.size, 0, none⟩) 2 2, .slice (some ⟨(kS1 w).heap.size, 0, none⟩) 1 1, .slice (some ⟨(kS2 w).heap.size, 0, none⟩) 1 1, .slice (some ⟨(kS3 w).heap.size, 0, none⟩) 2 2, .slice (some ⟨(kS4 w).heap.size, 0, none⟩) 0 0] 24
theorem kS_below (w : World) : RowKit.Below w.heap.size w (kS5 w) := below_al (below_lit (below_lit (below_lit (below_lit (RowKit.Below.refl _ w) _) _) _) _) _
theorem kS_toks (w : World) : Kd.C (Kd.slice 5 (Kd.int .u8)) ((kS5 w).alloc (kSo w)) (some ⟨(kS4 w).heap.size + 1, 0, none⟩) 5 [[97, 98], [98], [97], [97, 98], []] := by
  have h1 : Has (kS1 w) w.heap.size [97, 98] := has_lit w [97, 98]
  have h2 : Has (kS2 w) (kS1 w).heap.size [98] := has_lit (kS1 w) [98]
  have h3 : Has (kS3 w) (kS2 w).heap.size [97] := has_lit (kS2 w) [97]
  have h4 : Has (kS4 w) (kS3 w).heap.size [97, 98] := has_lit (kS3 w) [97, 98]
  unfold kSo
  exact toks_new (kS5 w) _ (by unfold kS5; exact World.size_alloc ..) [(w.heap.size, [97, 98]), ((kS1 w).heap.size, [98]), ((kS2 w).heap.size, [97]), ((kS3 w).heap.size, [97, 98]), ((kS4 w).heap.size, [])] (by simp)
    (fun p hp => by
      simp only [List.mem_cons, List.not_mem_nil, or_false] at hp
      rcases hp with rfl | rfl | rfl | rfl | rfl
      · exact ⟨(((h1.lit _).lit _).lit _).al _, by simp⟩
      · exact ⟨((h2.lit _).lit _).al _, by simp⟩
      · exact ⟨(h3.lit _).al _, by simp⟩
      · exact ⟨h4.al _, by simp⟩
      · exact ⟨has_nil _ _, by simp⟩) _ (by simp)
theorem known_sort (w : World) : Calls Try.prog 9 #[.slice (some ⟨(kS4 w).heap.size + 1, 0, none⟩) 5 5] ((kS5 w).alloc (kSo w)) fun e w' =>
    ∃ a c, e = .returned (.slice (some a) 4 c) ∧ Hid (KN w a c w') := by
  have hd : names_Sort.f [[97, 98], [98], [97], [97, 98], []] = some dToks := by decide +kernel
  refine (names_Sort.calls _ 5 [[97, 98], [98], [97], [97, 98], []] dToks _ (kS_toks w) (Nat.le_refl _) hd).mono ?_
  rintro e w1 ⟨v0, rfl, s0, b0⟩
  obtain ⟨A, c, rfl, hc, hC⟩ := Kd.S_reads s0
  obtain ⟨a, A0, c0, rfl, -, -, -⟩ := PIds.at_L1 hC 0 (by decide) (by decide)
  have b := below_al (kS_below w) (kSo w)
  exact ⟨a, c, rfl, Lib.hid ⟨b.trans (b0.mono b.size), hc, hC⟩⟩
theorem known_find (w0 w : World) (a : Addr) (c : Nat) (x : List Int) (k : Int) (r : Bool) (hx : x.length ≤ 1000) (H : Hid (KN w0 a c w)) (hf : names_Find.f dToks x = some (k, r)) :
    Calls Try.prog 10 #[.slice (some a) 4 c, .slice (some ⟨w.heap.size, 0, none⟩) x.length x.length] (litW w (x.map (Value.int .u8)).toArray) fun e w' => e = .returned (.tuple #[.int .i64 k, .bool r]) ∧ Hid (KN w0 a c w') := by
  have h := H.out
  have b := below_lit (RowKit.Below.refl _ w) (x.map (Value.int .u8)).toArray
  refine (names_Find.calls (some a) c dToks _ x.length x k r _ (Kd.C_below h.toks b) h.cap (C_has (has_lit w x) hx) (Nat.le_refl _) hf).mono ?_
  rintro e w' ⟨rfl, n, rfl⟩
  exact ⟨rfl, Lib.hid (h.go (pw_below_drewN b n))⟩
def kI1 (w : World) : World := litW w #[.int .u8 98]
def kI2 (w : World) : World := (kI1 w).alloc (.cells #[] 5)
def kIo (w : World) : Obj := .cells #[.slice (some ⟨w.heap.size, 0, none⟩) 1 1, .slice (some ⟨(kI1 w).heap.size, 0, none⟩) 0 0] 24
theorem known_ids (w0 w : World) (a : Addr) (c : Nat) (H : Hid (KN w0 a c w)) :
    Calls Try.prog 11 #[.slice (some a) 4 c, .slice (some ⟨(kI1 w).heap.size + 1, 0, none⟩) 2 2] ((kI2 w).alloc (kIo w)) fun e w' => ∃ B cB, e = .returned (.tuple #[.slice B 2 cB, .bool true]) ∧ Hid (KM w0 a c B cB w') := by
  have h := H.out
  have b : RowKit.Below w.heap.size w ((kI2 w).alloc (kIo w)) := below_al (below_al (below_lit (RowKit.Below.refl _ w) _) _) _
  have h1 : Has (kI1 w) w.heap.size [98] := has_lit w [98]
  have hT : Kd.C (Kd.slice 5 (Kd.int .u8)) ((kI2 w).alloc (kIo w)) (some ⟨(kI1 w).heap.size + 1, 0, none⟩) 2 [[98], []] := by
   unfold kIo
   exact toks_new (kI2 w) _ (by unfold kI2; exact World.size_alloc ..) [(w.heap.size, [98]), ((kI1 w).heap.size, [])] (by simp)
    (fun p hp => by
      simp only [List.mem_cons, List.not_mem_nil, or_false] at hp
      rcases hp with rfl | rfl
      · exact ⟨h1.al _, by simp⟩
      · exact ⟨has_nil _ _, by simp⟩) _ (by simp)
  have hf : names_Ids.f 20 dToks [[98], []] = some ([3, 0], true) := by decide +kernel
  refine (names_Ids.calls 20 (some a) c dToks _ 2 [[98], []] [3, 0] true _ (Kd.C_below h.toks b) h.cap hT (Nat.le_refl _) hf).mono ?_
  rintro e w' ⟨v0, rfl, r0, b0⟩
  obtain ⟨B, cB, rfl, hc, hC⟩ := Kd.R_reads r0
  exact ⟨B, cB, rfl, Lib.hid ⟨h.go (b.trans (b0.mono b.size)), hc, hC⟩⟩
def kJ1 (w : World) : World := litW w #[.int .u8 98]
def kJ2 (w : World) : World := litW (kJ1 w) #[.int .u8 98, .int .u8 98]
def kJo (w : World) : Obj := .cells #[.slice (some ⟨w.heap.size, 0, none⟩) 1 1, .slice (some ⟨(kJ1 w).heap.size, 0, none⟩) 2 2] 24
theorem known_ids2 (w0 w : World) (a : Addr) (c : Nat) (B : Option Addr) (cB : Nat) (H : Hid (KM w0 a c B cB w)) :
    Calls Try.prog 11 #[.slice (some a) 4 c, .slice (some ⟨(kJ2 w).heap.size, 0, none⟩) 2 2] ((kJ2 w).alloc (kJo w)) fun e w' => ∃ D cD, e = .returned (.tuple #[.slice D 0 cD, .bool false]) ∧ Hid (KM w0 a c B cB w') := by
  have h := H.out
  have b : RowKit.Below w.heap.size w ((kJ2 w).alloc (kJo w)) := below_al (below_lit (below_lit (RowKit.Below.refl _ w) _) _) _
  have h1 : Has (kJ1 w) w.heap.size [98] := has_lit w [98]
  have h2 : Has (kJ2 w) (kJ1 w).heap.size [98, 98] := has_lit (kJ1 w) [98, 98]
  have hT : Kd.C (Kd.slice 5 (Kd.int .u8)) ((kJ2 w).alloc (kJo w)) (some ⟨(kJ2 w).heap.size, 0, none⟩) 2 [[98], [98, 98]] := by
   unfold kJo
   exact toks_new (kJ2 w) _ rfl [(w.heap.size, [98]), ((kJ1 w).heap.size, [98, 98])] (by simp)
    (fun p hp => by
      simp only [List.mem_cons, List.not_mem_nil, or_false] at hp
      rcases hp with rfl | rfl
      · exact ⟨h1.lit _, by simp⟩
      · exact ⟨h2, by simp⟩) _ (by simp)
  have hf : names_Ids.f 20 dToks [[98], [98, 98]] = some ([], false) := by decide +kernel
  refine (names_Ids.calls 20 (some a) c dToks _ 2 [[98], [98, 98]] [] false _ (Kd.C_below h.kn.toks b) h.kn.cap hT (Nat.le_refl _) hf).mono ?_
  rintro e w' ⟨v0, rfl, r0, b0⟩
  obtain ⟨D, cD, rfl, hc, hC⟩ := Kd.R_reads r0
  exact ⟨D, cD, rfl, Lib.hid (h.go (b.trans (b0.mono b.size)))⟩
theorem known_two (w0 w : World) (a : Addr) (c : Nat) (B : Option Addr) (cB : Nat) (H : Hid (KM w0 a c B cB w)) :
    Calls Try.prog 12 #[.slice none 0 0, .slice none 0 0] w fun e w' => ∃ D cD E cE, e = .returned (.tuple #[.slice D 0 cD, .slice E 0 cE, .int .i64 0]) ∧ Hid (KM w0 a c B cB w') := by
  have h := H.out
  have hf : names_Two.f 10 [] [] = some ([], [], 0) := by decide +kernel
  have hn : Kd.C (Kd.slice 5 (Kd.int .u8)) w none 0 [] := ⟨rfl, by omega, fun h => by cases h⟩
  refine (names_Two.calls 10 none 0 [] none 0 [] [] [] 0 w hn (Nat.le_refl _) hn (Nat.le_refl _) hf).mono ?_
  rintro e w' ⟨v0, v1, rfl, r0, r1, b0⟩
  obtain ⟨D, cD, rfl, _, _⟩ := Kd.R_reads r0
  obtain ⟨E, cE, rfl, _, _⟩ := Kd.R_reads r1
  exact ⟨D, cD, E, cE, rfl, Lib.hid (h.go b0)⟩
theorem known_awake (w0 w : World) (a : Addr) (c : Nat) (B : Option Addr) (cB : Nat) (H : Hid (KM w0 a c B cB w)) :
    Calls Try.prog 13 #[] w fun e w' => e = .returned (.bool true) ∧ Hid (KM w0 a c B cB w') := by
  refine (tattinglaw2_awake.calls true w rfl).mono ?_
  rintro e w' ⟨rfl, b0⟩
  exact ⟨rfl, Lib.hid (H.out.go b0)⟩
theorem known_same (w0 w : World) (a : Addr) (c : Nat) (B : Option Addr) (cB : Nat) (H : Hid (KM w0 a c B cB w)) :
    Calls Try.prog 14 #[.slice B 2 cB, .slice (some ⟨w.heap.size, 0, none⟩) 2 2] (w.alloc (.cells #[.int .i64 3, .int .i64 0] 3)) fun e w' => e = .returned (.bool true) ∧ Hid (KM w0 a c B cB w') := by
  have hx : PIds.tattingref1_SameInts.f 10 [3, 0] [3, 0] = some true := by decide +kernel
  refine (same_lit true B cB 3 0 3 0 w _ rfl H.out.cap H.out.ids hx).mono ?_
  rintro e w' ⟨rfl, n, rfl⟩
  exact ⟨rfl, Lib.hid (H.out.go (pw_below_drewN (below_al (RowKit.Below.refl _ w) _) n))⟩
end Go.Proofs.Ytnaicfffplnebaa.Man
