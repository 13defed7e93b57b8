/- Contracts of bytes.Compare and bytes.Clone, in the form of the printed contracts: what is read of slices of bytes is a list of numbers. -/
import Derived.Test.YtnaicfffplnebaaProg
import Derived.Below
import Derived.WalkKit
import Derived.KernelRfl
import Derived.Laws.Externs
import Derived.Lib.BytesEntry
import Derived.Test.YtnaicfffplnebaaWMore
namespace Go.Proofs.Ytnaicfffplnebaa.Man
open Go.RowKit Go.Proofs.YtnaicfffplnebaaW.PrintWords Go.Proofs.YtnaicfffplnebaaW.PrintLast Go.Proofs.YtnaicfffplnebaaW.PrintMore

/-- The bytes of a list of numbers. -/
def byt (l : List Int) : List UInt8 := l.map fun n => n.toNat.toUInt8
theorem byt_length (l : List Int) : (byt l).length = l.length := by simp [byt]

/-- The order of bytes, as 'bytes.Compare' tells it. -/
def cmpB : List UInt8 → List UInt8 → Int
  | [], [] => 0
  | [], _ :: _ => -1
  | _ :: _, [] => 1
  | a :: l, b :: m => if a = b then cmpB l m else if a < b then -1 else 1

theorem find_map_succ (p : Nat → Bool) (l : List Nat) : (l.map Nat.succ).find? p = (l.find? (fun i => p (i + 1))).map Nat.succ := by
  induction l with
  | nil => rfl
  | cons a l ih =>
    simp only [List.map_cons, List.find?_cons]
    cases h : p (a + 1) <;> simp_all

theorem bsize (l : List UInt8) : (⟨l.toArray⟩ : ByteArray).size = l.length := by
  show l.toArray.size = l.length
  simp
theorem cmp_eq (a b : List UInt8) : Extern.BytealgCompare.cmp ⟨a.toArray⟩ ⟨b.toArray⟩ = cmpB a b := by
  induction a generalizing b with
  | nil =>
    cases b with
    | nil => rfl
    | cons y m =>
      unfold Extern.BytealgCompare.cmp
      rw [bsize, bsize]
      simp [cmpB]
  | cons x l ih =>
    cases b with
    | nil =>
      unfold Extern.BytealgCompare.cmp
      rw [bsize, bsize]
      simp [cmpB]
    | cons y m =>
      have hm : min (⟨(x :: l).toArray⟩ : ByteArray).size (⟨(y :: m).toArray⟩ : ByteArray).size = min l.length m.length + 1 := by
        rw [bsize, bsize, List.length_cons, List.length_cons]; omega
      have hg0 : (⟨(x :: l).toArray⟩ : ByteArray)[0]! = x := rfl
      have hg0' : (⟨(y :: m).toArray⟩ : ByteArray)[0]! = y := rfl
      have hgs : ∀ i, (⟨(x :: l).toArray⟩ : ByteArray)[i + 1]! = (⟨l.toArray⟩ : ByteArray)[i]! := by
        intro i
        by_cases h : i < l.length
        · rw [getElem!_pos (⟨(x :: l).toArray⟩ : ByteArray) (i + 1) (by rw [bsize]; first | omega | (simp; omega)), getElem!_pos (⟨l.toArray⟩ : ByteArray) i (by rw [bsize]; first | omega | (simp; omega))]; rfl
        · rw [getElem!_neg (⟨(x :: l).toArray⟩ : ByteArray) (i + 1) (by rw [bsize]; first | omega | (simp; omega)), getElem!_neg (⟨l.toArray⟩ : ByteArray) i (by rw [bsize]; first | omega | (simp; omega))]
      have hgs' : ∀ i, (⟨(y :: m).toArray⟩ : ByteArray)[i + 1]! = (⟨m.toArray⟩ : ByteArray)[i]! := by
        intro i
        by_cases h : i < m.length
        · rw [getElem!_pos (⟨(y :: m).toArray⟩ : ByteArray) (i + 1) (by rw [bsize]; first | omega | (simp; omega)), getElem!_pos (⟨m.toArray⟩ : ByteArray) i (by rw [bsize]; first | omega | (simp; omega))]; rfl
        · rw [getElem!_neg (⟨(y :: m).toArray⟩ : ByteArray) (i + 1) (by rw [bsize]; first | omega | (simp; omega)), getElem!_neg (⟨m.toArray⟩ : ByteArray) i (by rw [bsize]; first | omega | (simp; omega))]
      have hs : min (⟨l.toArray⟩ : ByteArray).size (⟨m.toArray⟩ : ByteArray).size = min l.length m.length := by rw [bsize, bsize]
      have ih' := ih m
      unfold Extern.BytealgCompare.cmp at ih' ⊢
      rw [hm, List.range_succ_eq_map, List.find?_cons, hg0, hg0']
      rw [hs] at ih'
      rw [find_map_succ]
      simp only [hgs, hgs']
      simp only [cmpB]
      by_cases hxy : x = y
      · subst hxy
        rw [if_pos rfl, ← ih']
        simp only [bne_self_eq_false]
        cases hf : (List.range (min l.length m.length)).find? (fun i => (⟨l.toArray⟩ : ByteArray)[i]! != (⟨m.toArray⟩ : ByteArray)[i]!) with
        | none =>
          simp only [Option.map_none]
          rw [bsize, bsize, bsize, bsize]
          simp
        | some i =>
          simp only [Option.map_some, Nat.succ_eq_add_one, hgs, hgs']
      · have : (x != y) = true := by simpa using hxy
        simp only [this, if_neg hxy, hg0, hg0']

theorem C_bytes {P : Program} {w : World} {A : Option Addr} {c : Nat} {l : List Int} (h : Kd.C (Kd.int .u8) w A l.length l) : (Extern.Bytes.bytesOf (.slice A l.length c)).run P w = .ok ⟨(byt l).toArray⟩ w := by
  have hr := Kd.reads_of_C (d := (0 : Int)) h
  obtain ⟨hl, hr⟩ := hr
  cases A with
  | none =>
    have : l = [] := by
      rcases l with _ | ⟨x, l⟩
      · rfl
      · obtain ⟨ad, had, _⟩ := Kd.at_int h 0 (by omega) (by simp)
        cases had
    subst this
    rfl
  | some a =>
    have := Lib.run_loadBytesX (P := P) w l a .empty (fun j x hj => by
      have hlt : j < l.length := (List.getElem?_eq_some_iff.1 hj).1
      obtain ⟨ad, had, hc⟩ := Kd.at_int h j (by omega) (by omega)
      cases had
      rw [Int.toNat_natCast] at hc
      rw [hc]
      have : rd l j = x := by
        unfold rd
        rw [Int.toNat_natCast, List.getD_eq_getElem?_getD, hj]; rfl
      rw [this])
    change (Extern.Bytes.loadBytes a l.length .empty).run P w = _
    rw [this]
    simp [Lib.bytesOf, byt]

def bytes_Compare.f (l0 l1 : List Int) : Option Int := some (cmpB (byt l0) (byt l1))
theorem bytes_Compare.calls (A0 : Option Addr) (c0 : Nat) (l0 : List Int) (A1 : Option Addr) (c1 : Nat) (l1 : List Int) (r : Int) (w : World) (hr0 : Kd.C (Kd.int .u8) w A0 l0.length l0) (hr1 : Kd.C (Kd.int .u8) w A1 l1.length l1) (h : bytes_Compare.f l0 l1 = some r) :
    Calls Try.prog 25 #[.slice A0 l0.length c0, .slice A1 l1.length c1] w fun e w' => e = .returned (.int .i64 r) ∧ Drawn0 w w' := by
  have hx : ∀ W : World, W = w → (callFunc 33 #[.slice A0 l0.length c0, .slice A1 l1.length c1]).run Try.prog W = .ok (.value (.int .i64 r)) W := by
    rintro W rfl
    have hf : Try.prog.funcs[33]? = some Try.f33 := Try.func33
    rw [run_callFunc_extern hf (by kernel_rfl) (by kernel_rfl) (by kernel_rfl) (e := Extern.BytealgCompare.compare) (by kernel_rfl)]
    have : (Extern.BytealgCompare.compare #[.slice A0 l0.length c0, .slice A1 l1.length c1]).run Try.prog W = .ok (.int .i64 r) W := by
      change Sem.run Try.prog (do
        let a ← Extern.Bytes.bytesOf (.slice A0 l0.length c0)
        let b ← Extern.Bytes.bytesOf (.slice A1 l1.length c1)
        pure (goInt (Extern.BytealgCompare.cmp a b))) W = _
      simp only [Sem.run_bind, C_bytes hr0, C_bytes hr1, Result.andThen, Sem.run_pure, cmp_eq]
      injection h with h
      rw [h]; rfl
    rw [this]
    rfl
  have hw := hx w rfl
  clear hx hr0 hr1 h
  go_enter Try.func25, Try.ntmps25
  go_wp2
  go_ret
  exact ⟨rfl, Drawn0.refl _⟩
end Go.Proofs.Ytnaicfffplnebaa.Man
