/- math/bits.Add64 and Sub64: what the model's entries for them answer. -/
import Derived.Test.YtkfgkefkmofdcaaProg
import Derived.Shelf.Spec.BitsCarry
import Derived.KernelRfl
import Derived.Laws.Externs
namespace Go.Proofs.Ytkfgkefkmofdcaa.Man
open Go.Proofs

/-- The sum of two words and a carry. -/
def bits_Add64.f (x y c : Int) : Option (Int × Int) :=
  if 0 ≤ x ∧ 0 ≤ y ∧ 0 ≤ c ∧ c ≤ 1 then some ((x + y + c) % 18446744073709551616, (x + y + c) / 18446744073709551616) else none
theorem bits_Add64.run {x y c r1 r2 : Int} (h : bits_Add64.f x y c = some (r1, r2)) (w : World) :
    (callFunc 51 #[.int .u64 x, .int .u64 y, .int .u64 c]).run Try.prog w = .ok (.value (.tuple #[.int .u64 r1, .int .u64 r2])) w := by
  unfold bits_Add64.f at h
  split at h
  · rename_i hc
    obtain ⟨hx, hy, hc0, hc1⟩ := hc
    injection h with h
    injection h with h1 h2
    subst h1 h2
    obtain ⟨x, rfl⟩ := Int.eq_ofNat_of_zero_le hx
    obtain ⟨y, rfl⟩ := Int.eq_ofNat_of_zero_le hy
    obtain ⟨c, rfl⟩ := Int.eq_ofNat_of_zero_le hc0
    rw [run_callFunc_extern Try.func51 (by kernel_rfl) (by kernel_rfl) (by kernel_rfl) (e := add64Entry) (by kernel_rfl), run_add64 x y c (by omega) (by omega) (by omega) (by omega)]
    rfl
  · cases h
/-- The difference of two words and a borrow. -/
def bits_Sub64.f (x y c : Int) : Option (Int × Int) :=
  if 0 ≤ x ∧ 0 ≤ y ∧ y < 18446744073709551616 ∧ 0 ≤ c ∧ c ≤ 1 then some ((x - y - c) % 18446744073709551616, if x < y + c then 1 else 0) else none
theorem bits_Sub64.run {x y c r1 r2 : Int} (h : bits_Sub64.f x y c = some (r1, r2)) (w : World) :
    (callFunc 52 #[.int .u64 x, .int .u64 y, .int .u64 c]).run Try.prog w = .ok (.value (.tuple #[.int .u64 r1, .int .u64 r2])) w := by
  unfold bits_Sub64.f at h
  split at h
  · rename_i hc
    obtain ⟨hx, hy, hy1, hc0, hc1⟩ := hc
    injection h with h
    injection h with h1 h2
    subst h1 h2
    obtain ⟨x, rfl⟩ := Int.eq_ofNat_of_zero_le hx
    obtain ⟨y, rfl⟩ := Int.eq_ofNat_of_zero_le hy
    obtain ⟨c, rfl⟩ := Int.eq_ofNat_of_zero_le hc0
    have e1 : (((x + 18446744073709551616 - y - c) % 18446744073709551616 : Nat) : Int) = ((x : Int) - y - c) % 18446744073709551616 := by omega
    have e2 : ((if x < y + c then 1 else 0 : Nat) : Int) = if (x : Int) < y + c then 1 else 0 := by split <;> split <;> omega
    rw [← e1, ← e2]
    rw [run_callFunc_extern Try.func52 (by kernel_rfl) (by kernel_rfl) (by kernel_rfl) (e := sub64Entry) (by kernel_rfl), run_sub64 x y c (by omega)]
    rfl
  · cases h
end Go.Proofs.Ytkfgkefkmofdcaa.Man
