/- Plain numbers: a number's bytes. No condition. -/
import Derived.Laws.BitsAllLaws
import Derived.Laws.Shifts
namespace Go.Proofs.Ytonbnlfijmapfaa
open Go

/-- Byte number j, from the greatest, of a number of eight bytes. -/
def u8z (u : Int) (j : Nat) : Int := u / 2 ^ (56 - 8 * j) % 256
/-- A whole number's bytes. -/
def intBytes (n : Int) : List Int := 1 :: (List.range 8).map (u8z (n + 9223372036854775808))

theorem nat_xor_top (a : Nat) (h : a < 2 ^ 63) : a ^^^ 2 ^ 63 = 2 ^ 63 + a := by
  apply Nat.eq_of_testBit_eq
  intro i
  rw [Nat.testBit_xor, Nat.testBit_two_pow]
  rcases Nat.lt_trichotomy i 63 with h1 | h1 | h1
  · rw [Nat.testBit_two_pow_add_gt h1]
    have : ¬ 63 = i := by omega
    simp [this]
  · subst h1
    rw [Nat.testBit_two_pow_add_eq]
    simp
  · have e : ¬ 63 = i := by omega
    have h2 : 2 ^ 63 + a < 2 ^ i := by
      have : 2 ^ 64 ≤ 2 ^ i := Nat.pow_le_pow_right (by omega) (by omega)
      omega
    have h3 : a < 2 ^ i := by omega
    rw [Nat.testBit_lt_two_pow h2, Nat.testBit_lt_two_pow h3]
    simp [e]

theorem xor_top (n : Int) (h0 : -9223372036854775808 ≤ n) (h1 : n ≤ 9223372036854775807) :
    bits .xor .u64 (IntKind.u64.wrap n) 9223372036854775808 = n + 9223372036854775808 := by
  have hw : IntKind.u64.wrap n = n % 18446744073709551616 := by simp [IntKind.wrap, IntKind.bits, IntKind.signed]
  rw [hw]
  rw [u64_xor _ _ (by omega) (by omega) (by omega) (by omega)]
  by_cases hn : 0 ≤ n
  · have e : (n % 18446744073709551616).toNat = n.toNat := by omega
    rw [e]
    have := nat_xor_top n.toNat (by omega)
    rw [show ((9223372036854775808 : Int).toNat) = 2 ^ 63 from rfl, this]
    omega
  · have hb : (n + 9223372036854775808).toNat < 2 ^ 63 := by omega
    have e : (n % 18446744073709551616).toNat = 2 ^ 63 + (n + 9223372036854775808).toNat := by omega
    rw [e]
    have := nat_xor_top _ hb
    rw [show ((9223372036854775808 : Int).toNat) = 2 ^ 63 from rfl, ← this, Nat.xor_assoc, Nat.xor_self, Nat.xor_zero]
    omega

theorem intBytes_length (n : Int) : (intBytes n).length = 9 := by simp [intBytes]
theorem intBytes_take (n : Int) (j : Nat) (h : j < 8) : (intBytes n).take (j + 1 + 1) = (intBytes n).take (j + 1) ++ [u8z (n + 9223372036854775808) j] := by
  have : j = 0 ∨ j = 1 ∨ j = 2 ∨ j = 3 ∨ j = 4 ∨ j = 5 ∨ j = 6 ∨ j = 7 := by omega
  rcases this with rfl | rfl | rfl | rfl | rfl | rfl | rfl | rfl <;> rfl

/-- A text's letters, a 255 behind each 0. -/
def esc : List Int → List Int
  | [] => []
  | c :: t => if c = 0 then 0 :: 255 :: esc t else c :: esc t
theorem esc_append : ∀ (a b : List Int), esc (a ++ b) = esc a ++ esc b
  | [], b => rfl
  | c :: t, b => by
    rw [List.cons_append, esc, esc]
    split <;> simp [esc_append t b]
theorem esc_length : ∀ (a : List Int), (esc a).length ≤ 2 * a.length
  | [] => by simp [esc]
  | c :: t => by
    have := esc_length t
    rw [esc]; split <;> simp <;> omega
end Go.Proofs.Ytonbnlfijmapfaa
