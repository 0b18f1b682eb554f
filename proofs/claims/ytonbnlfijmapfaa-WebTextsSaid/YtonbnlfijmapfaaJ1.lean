/- Texts of this proof, joined: P0, P2, K0, P4, K1, K2, L1, L2, L3, L4, L5, L6. No condition. -/
import Derived.Laws.BitsAllLaws
import Derived.Laws.Shifts
import Derived.Test.YtonbnlfijmapfaaProg
import Derived.Test.YtonbnlfijmapfaaWWords
import Derived.WalkKit
import Derived.KernelRfl
import Derived.WalkSpells
import Derived.WalkLawsBesides
import Derived.Deep.QuietTactic
import Derived.BigQuiet
import Derived.Deep.RegionHeld3
import Derived.Lib.Hide
import Derived.Lib.OthersKept
import Derived.Shelf.Abstract
import Derived.Laws.RangeAny
import Derived.Lib.RuneCount
import Derived.Laws.IdiomStrings
import Derived.WideLaws
/- Plain numbers: a number's bytes. No condition. -/
namespace Go.Proofs.Ytonbnlfijmapfaa
open Go

/-- Byte number j, from the greatest, of a number of eight bytes. -/
def u8z (u : Int) (j : Nat) : Int := u / 2 ^ (56 - 8 * j) % 256
/-- A whole number's bytes. -/
def intBytes (n : Int) : List Int := 1 :: (List.range 8).map (u8z (n + 9223372036854775808))

theorem nat_xor_top (a : Nat) (h : a < 2 ^ 63) : a ^^^ 2 ^ 63 = 2 ^ 63 + a := by
  apply Nat.eq_of_testBit_eq
  intro i
  rw [Nat.testBit_xor, Nat.testBit_two_pow]
  rcases Nat.lt_trichotomy i 63 with h1 | h1 | h1
  · rw [Nat.testBit_two_pow_add_gt h1]
    have : ¬ 63 = i := by omega
    simp [this]
  · subst h1
    rw [Nat.testBit_two_pow_add_eq]
    simp
  · have e : ¬ 63 = i := by omega
    have h2 : 2 ^ 63 + a < 2 ^ i := by
      have : 2 ^ 64 ≤ 2 ^ i := Nat.pow_le_pow_right (by omega) (by omega)
      omega
    have h3 : a < 2 ^ i := by omega
    rw [Nat.testBit_lt_two_pow h2, Nat.testBit_lt_two_pow h3]
    simp [e]

theorem xor_top (n : Int) (h0 : -9223372036854775808 ≤ n) (h1 : n ≤ 9223372036854775807) :
    bits .xor .u64 (IntKind.u64.wrap n) 9223372036854775808 = n + 9223372036854775808 := by
  have hw : IntKind.u64.wrap n = n % 18446744073709551616 := by simp [IntKind.wrap, IntKind.bits, IntKind.signed]
  rw [hw]
  rw [u64_xor _ _ (by omega) (by omega) (by omega) (by omega)]
  by_cases hn : 0 ≤ n
  · have e : (n % 18446744073709551616).toNat = n.toNat := by omega
    rw [e]
    have := nat_xor_top n.toNat (by omega)
    rw [show ((9223372036854775808 : Int).toNat) = 2 ^ 63 from rfl, this]
    omega
  · have hb : (n + 9223372036854775808).toNat < 2 ^ 63 := by omega
    have e : (n % 18446744073709551616).toNat = 2 ^ 63 + (n + 9223372036854775808).toNat := by omega
    rw [e]
    have := nat_xor_top _ hb
    rw [show ((9223372036854775808 : Int).toNat) = 2 ^ 63 from rfl, ← this, Nat.xor_assoc, Nat.xor_self, Nat.xor_zero]
    omega

theorem intBytes_length (n : Int) : (intBytes n).length = 9 := by simp [intBytes]
theorem intBytes_take (n : Int) (j : Nat) (h : j < 8) : (intBytes n).take (j + 1 + 1) = (intBytes n).take (j + 1) ++ [u8z (n + 9223372036854775808) j] := by
  have : j = 0 ∨ j = 1 ∨ j = 2 ∨ j = 3 ∨ j = 4 ∨ j = 5 ∨ j = 6 ∨ j = 7 := by omega
  rcases this with rfl | rfl | rfl | rfl | rfl | rfl | rfl | rfl <;> rfl

/-- A text's letters, a 255 behind each 0. -/
def esc : List Int → List Int
  | [] => []
  | c :: t => if c = 0 then 0 :: 255 :: esc t else c :: esc t
theorem esc_append : ∀ (a b : List Int), esc (a ++ b) = esc a ++ esc b
  | [], b => rfl
  | c :: t, b => by
    rw [List.cons_append, esc, esc]
    split <;> simp [esc_append t b]
theorem esc_length : ∀ (a : List Int), (esc a).length ≤ 2 * a.length
  | [] => by simp [esc]
  | c :: t => by
    have := esc_length t
    rw [esc]; split <;> simp <;> omega
end Go.Proofs.Ytonbnlfijmapfaa
/- Plain: the order of lists of numbers, of a value's bytes, of values. No condition. -/
namespace Go.Proofs.Ytonbnlfijmapfaa
open Go

/-- The order of lists, number by number. -/
def ord : List Int → List Int → Int
  | [], [] => 0
  | [], _ :: _ => -1
  | _ :: _, [] => 1
  | x :: xs, y :: ys => if x = y then ord xs ys else if x < y then -1 else 1
theorem ord_refl : ∀ (l : List Int), ord l l = 0
  | [] => rfl
  | x :: xs => by rw [ord, if_pos rfl, ord_refl xs]
theorem ord_eq : ∀ {a b : List Int}, ord a b = 0 → a = b
  | [], [], _ => rfl
  | [], _ :: _, h => by simp [ord] at h
  | _ :: _, [], h => by simp [ord] at h
  | x :: xs, y :: ys, h => by
    rw [ord] at h
    by_cases hx : x = y
    · rw [if_pos hx] at h; rw [hx, ord_eq h]
    · rw [if_neg hx] at h; split at h <;> omega
theorem ord_same (p a b : List Int) : ord (p ++ a) (p ++ b) = ord a b := by
  induction p with
  | nil => rfl
  | cons x p ih => rw [List.cons_append, List.cons_append, ord, if_pos rfl, ih]
/-- Of one length: what stands behind counts just where they are the same. -/
theorem ord_fixed : ∀ (a b c d : List Int), a.length = b.length → ord (a ++ c) (b ++ d) = if ord a b = 0 then ord c d else ord a b
  | [], [], c, d, _ => by simp [ord]
  | [], _ :: _, _, _, h => by simp at h
  | _ :: _, [], _, _, h => by simp at h
  | x :: xs, y :: ys, c, d, h => by
    rw [List.cons_append, List.cons_append, ord, ord]
    by_cases hx : x = y
    · rw [if_pos hx, if_pos hx]; exact ord_fixed xs ys c d (by simpa using h)
    · rw [if_neg hx, if_neg hx]; split <;> simp
/-- The number of bytes, the greatest first. -/
def numOf : List Int → Int
  | [] => 0
  | x :: xs => x * 256 ^ xs.length + numOf xs
theorem numOf_lt : ∀ (l : List Int), (∀ x ∈ l, 0 ≤ x ∧ x < 256) → 0 ≤ numOf l ∧ numOf l < 256 ^ l.length
  | [], _ => by simp [numOf]
  | x :: xs, h => by
    have h1 := numOf_lt xs (fun y hy => h y (List.mem_cons_of_mem _ hy))
    have h2 := h x List.mem_cons_self
    have hp : (0 : Int) < 256 ^ xs.length := Int.pow_pos (by decide)
    rw [numOf, List.length_cons, Int.pow_succ]
    have h3 : x * 256 ^ xs.length ≤ 255 * 256 ^ xs.length := Int.mul_le_mul_of_nonneg_right (by omega) (by omega)
    have h4 : 0 ≤ x * 256 ^ xs.length := Int.mul_nonneg h2.1 (by omega)
    omega
theorem ord_numOf : ∀ (a b : List Int), a.length = b.length → (∀ x ∈ a, 0 ≤ x ∧ x < 256) → (∀ x ∈ b, 0 ≤ x ∧ x < 256) → ord a b = if numOf a = numOf b then 0 else if numOf a < numOf b then -1 else 1
  | [], [], _, _, _ => by simp [ord, numOf]
  | [], _ :: _, h, _, _ => by simp at h
  | _ :: _, [], h, _, _ => by simp at h
  | x :: xs, y :: ys, h, ha, hb => by
    have hl : xs.length = ys.length := by simpa using h
    have ih := ord_numOf xs ys hl (fun z hz => ha z (List.mem_cons_of_mem _ hz)) (fun z hz => hb z (List.mem_cons_of_mem _ hz))
    have h1 := numOf_lt xs (fun z hz => ha z (List.mem_cons_of_mem _ hz))
    have h2 := numOf_lt ys (fun z hz => hb z (List.mem_cons_of_mem _ hz))
    rw [ord, numOf, numOf, hl]
    rw [hl] at h1
    by_cases hx : x = y
    · rw [if_pos hx, ih, hx]
      by_cases e : numOf xs = numOf ys
      · rw [if_pos e, if_pos (by omega)]
      · rw [if_neg e]
        by_cases e2 : numOf xs < numOf ys
        · rw [if_pos e2, if_neg (by omega), if_pos (by omega)]
        · rw [if_neg e2, if_neg (by omega), if_neg (by omega)]
    · rw [if_neg hx]
      have hp : (0 : Int) < 256 ^ ys.length := Int.pow_pos (by decide)
      generalize (256 : Int) ^ ys.length = P at hp h1 h2 ⊢
      clear ih hl ha hb h
      rcases Int.lt_or_gt_of_ne hx with h3 | h3
      · rw [if_pos h3]
        have h4 : (x + 1) * P ≤ y * P := Int.mul_le_mul_of_nonneg_right (by omega) (by omega)
        rw [Int.add_mul, Int.one_mul] at h4
        have h5 : ¬ x * P + numOf xs = y * P + numOf ys := by omega
        have h6 : x * P + numOf xs < y * P + numOf ys := by omega
        rw [if_neg h5, if_pos h6]
      · rw [if_neg (by omega)]
        have h4 : (y + 1) * P ≤ x * P := Int.mul_le_mul_of_nonneg_right (by omega) (by omega)
        rw [Int.add_mul, Int.one_mul] at h4
        have h5 : ¬ x * P + numOf xs = y * P + numOf ys := by omega
        have h6 : ¬ x * P + numOf xs < y * P + numOf ys := by omega
        rw [if_neg h5, if_neg h6]
theorem numOf_u8z (u : Int) (h0 : 0 ≤ u) (h1 : u < 18446744073709551616) : numOf ((List.range 8).map (u8z u)) = u := by
  have e : (List.range 8).map (u8z u) = [u / 72057594037927936 % 256, u / 281474976710656 % 256, u / 1099511627776 % 256, u / 4294967296 % 256, u / 16777216 % 256, u / 65536 % 256, u / 256 % 256, u / 1 % 256] := rfl
  rw [e]
  simp only [numOf, List.length_cons, List.length_nil, Nat.reduceAdd]
  have : (256 : Int) ^ 7 = 72057594037927936 ∧ (256 : Int) ^ 6 = 281474976710656 ∧ (256 : Int) ^ 5 = 1099511627776 ∧ (256 : Int) ^ 4 = 4294967296 ∧ (256 : Int) ^ 3 = 16777216 ∧ (256 : Int) ^ 2 = 65536 ∧ (256 : Int) ^ 1 = 256 ∧ (256 : Int) ^ 0 = 1 := ⟨rfl, rfl, rfl, rfl, rfl, rfl, rfl, rfl⟩
  obtain ⟨e7, e6, e5, e4, e3, e2, e1, e0⟩ := this
  rw [e7, e6, e5, e4, e3, e2, e1, e0]
  omega
theorem ord_intBytes (m n : Int) (a b : List Int) (hm0 : -9223372036854775808 ≤ m) (hm1 : m ≤ 9223372036854775807) (hn0 : -9223372036854775808 ≤ n) (hn1 : n ≤ 9223372036854775807) :
    ord (intBytes m ++ a) (intBytes n ++ b) = if m = n then ord a b else if m < n then -1 else 1 := by
  have B : ∀ u, ∀ x ∈ (List.range 8).map (u8z u), 0 ≤ x ∧ x < 256 := by
    intro u x hx
    simp only [List.mem_map] at hx
    obtain ⟨j, _, rfl⟩ := hx
    unfold u8z; omega
  rw [ord_fixed _ _ _ _ (by rw [intBytes_length, intBytes_length])]
  have e : ord (intBytes m) (intBytes n) = if m = n then 0 else if m < n then -1 else 1 := by
    rw [intBytes, intBytes, ord, if_pos rfl, ord_numOf _ _ (by simp) (B _) (B _), numOf_u8z _ (by omega) (by omega), numOf_u8z _ (by omega) (by omega)]
    by_cases h : m = n
    · rw [if_pos (by omega), if_pos h]
    · rw [if_neg (by omega), if_neg h]
      by_cases h2 : m < n
      · rw [if_pos (by omega), if_pos h2]
      · rw [if_neg (by omega), if_neg h2]
  rw [e]
  by_cases h : m = n
  · rw [if_pos h, if_pos rfl, if_pos h]
  · rw [if_neg h, if_neg h]; split <;> simp
theorem ord_cons (x y : Int) (a b : List Int) : ord (x :: a) (y :: b) = if x = y then ord a b else if x < y then -1 else 1 := rfl
theorem ord_lt (x y : Int) (a b : List Int) (h : x < y) : ord (x :: a) (y :: b) = -1 := by rw [ord_cons, if_neg (by omega), if_pos h]
theorem ord_gt (x y : Int) (a b : List Int) (h : y < x) : ord (x :: a) (y :: b) = 1 := by rw [ord_cons, if_neg (by omega), if_neg (by omega)]
theorem ord_at (x : Int) (a b : List Int) : ord (x :: a) (x :: b) = ord a b := by rw [ord_cons, if_pos rfl]
theorem esc_0 (t : List Int) : esc (0 :: t) = 0 :: 255 :: esc t := by rw [esc, if_pos rfl]
theorem esc_1 (x : Int) (t : List Int) (h : ¬ x = 0) : esc (x :: t) = x :: esc t := by rw [esc, if_neg h]
/-- The first difference decides. -/
def lexOr (a b : Int) : Int := if a = 0 then b else a
theorem lexOr_0 (b : Int) : lexOr 0 b = b := if_pos rfl
theorem lexOr_1 (b : Int) : lexOr 1 b = 1 := rfl
theorem lexOr_m (b : Int) : lexOr (-1) b = -1 := rfl
/-- A text's bytes: the order is the text's. -/
theorem ord_esc : ∀ (s t a b : List Int), (∀ x ∈ s, 0 ≤ x) → (∀ x ∈ t, 0 ≤ x) → ord (esc s ++ (0 :: 0 :: a)) (esc t ++ (0 :: 0 :: b)) = lexOr (ord s t) (ord a b)
  | [], [], a, b, _, _ => by
    show ord (0 :: 0 :: a) (0 :: 0 :: b) = lexOr 0 (ord a b)
    rw [ord_at, ord_at, lexOr_0]
  | [], y :: t, a, b, _, hb => by
    have hy := hb y List.mem_cons_self
    show ord (0 :: 0 :: a) (esc (y :: t) ++ (0 :: 0 :: b)) = lexOr (-1) (ord a b)
    rw [lexOr_m]
    by_cases h : y = 0
    · subst h; rw [esc_0]; simp only [List.cons_append]; rw [ord_at, ord_lt _ _ _ _ (by omega)]
    · rw [esc_1 _ _ h, List.cons_append, ord_lt _ _ _ _ (by omega)]
  | x :: s, [], a, b, ha, _ => by
    have hx := ha x List.mem_cons_self
    show ord (esc (x :: s) ++ (0 :: 0 :: a)) (0 :: 0 :: b) = lexOr 1 (ord a b)
    rw [lexOr_1]
    by_cases h : x = 0
    · subst h; rw [esc_0]; simp only [List.cons_append]; rw [ord_at, ord_gt _ _ _ _ (by omega)]
    · rw [esc_1 _ _ h, List.cons_append, ord_gt _ _ _ _ (by omega)]
  | x :: s, y :: t, a, b, ha, hb => by
    have ih := ord_esc s t a b (fun z hz => ha z (List.mem_cons_of_mem _ hz)) (fun z hz => hb z (List.mem_cons_of_mem _ hz))
    have hx := ha x List.mem_cons_self
    have hy := hb y List.mem_cons_self
    by_cases h : x = y
    · subst h
      rw [ord_at, ← ih]
      by_cases h0 : x = 0
      · subst h0; rw [esc_0, esc_0]; simp only [List.cons_append]; rw [ord_at, ord_at]
      · rw [esc_1 _ _ h0, esc_1 _ _ h0, List.cons_append, List.cons_append, ord_at]
    · rcases Int.lt_or_gt_of_ne h with h3 | h3
      · rw [ord_lt _ _ _ _ h3, lexOr_m]
        rw [esc_1 y t (by omega)]
        by_cases h0 : x = 0
        · subst h0; rw [esc_0]; simp only [List.cons_append]; rw [ord_lt _ _ _ _ h3]
        · rw [esc_1 _ _ h0]; simp only [List.cons_append]; rw [ord_lt _ _ _ _ h3]
      · rw [ord_gt _ _ _ _ h3, lexOr_1]
        rw [esc_1 x s (by omega)]
        by_cases h0 : y = 0
        · subst h0; rw [esc_0]; simp only [List.cons_append]; rw [ord_gt _ _ _ _ h3]
        · rw [esc_1 _ _ h0]; simp only [List.cons_append]; rw [ord_gt _ _ _ _ h3]
end Go.Proofs.Ytonbnlfijmapfaa
/- The kinds of the program's plain values (Value, Prop, Vertex, Edge, Entry, Key), as data in Lean, and how they lie in cells. No condition. -/
namespace Go.Proofs.Ytonbnlfijmapfaa
open Go.RowKit Go.Proofs.YtonbnlfijmapfaaW.PrintWords
set_option linter.unusedVariables false
set_option linter.unusedSimpArgs false
set_option linter.unusedVariables false

/-! #### struct type 42 -/
structure SValue where
  f0 : Int
  f1 : Int
  f2 : ByteArray
def zValue : SValue := ⟨(0 : Int), (0 : Int), (⟨#[]⟩ : ByteArray)⟩
def kValue : Kd SValue := Kd.iso (Kd.pair (Kd.int .i64) (Kd.pair (Kd.int .i64) Kd.string)) (fun x : SValue => (x.f0, x.f1, x.f2))
theorem kValue_open {w : World} {x : SValue} {cs : List Value} (h : kValue.K w x cs) : cs = [.int .i64 x.f0, .int .i64 x.f1, .string x.f2] := by
  obtain ⟨_, _, rfl, rfl, ⟨_, _, rfl, rfl, rfl⟩⟩ := h
  exact rfl
theorem kValue_openM {w : World} {base : Nat} {ok : Nat → Prop} {x : SValue} {cs : List Value} (h : kValue.M w base ok x cs) : cs = [.int .i64 x.f0, .int .i64 x.f1, .string x.f2] := by
  obtain ⟨_, _, rfl, rfl, ⟨_, _, rfl, rfl, rfl⟩⟩ := h
  exact rfl
theorem kValue_mk (w : World) (x : SValue)  : kValue.K w x [.int .i64 x.f0, .int .i64 x.f1, .string x.f2] := ⟨[.int .i64 x.f0], [.int .i64 x.f1, .string x.f2], rfl, rfl, ⟨[.int .i64 x.f1], [.string x.f2], rfl, rfl, rfl⟩⟩
theorem kValue_mkM (w : World) (base : Nat) (ok : Nat → Prop) (x : SValue)  : kValue.M w base ok x [.int .i64 x.f0, .int .i64 x.f1, .string x.f2] := ⟨[.int .i64 x.f0], [.int .i64 x.f1, .string x.f2], rfl, rfl, ⟨[.int .i64 x.f1], [.string x.f2], rfl, rfl, rfl⟩⟩
def rd_Value (xs : List SValue) (i : Int) : SValue := xs.getD i.toNat zValue
theorem at_Value {w : World} {A : Option Addr} {n : Nat} {xs : List SValue} (h : Kd.C kValue w A n xs) (i : Int) (h0 : 0 ≤ i) (h1 : i < n) : ∃ ad , A = some ad ∧ w.cell? (ad.add (i.toNat * 3)) = some (.int .i64 (rd_Value xs i).f0) ∧ w.cell? ⟨(ad.add (i.toNat * 3)).block, (ad.add (i.toNat * 3)).off + 1, none⟩ = some (.int .i64 (rd_Value xs i).f1) ∧ w.cell? ⟨(ad.add (i.toNat * 3)).block, (ad.add (i.toNat * 3)).off + 2, none⟩ = some (.string (rd_Value xs i).f2) := by
  obtain ⟨ad, c, e, _, hK, hc0⟩ := Kd.C_get h zValue i h0 h1
  have hc : ∀ j u, c[j]? = some u → w.cell? (ad.add (i.toNat * 3 + j)) = some u := hc0
  obtain rfl := kValue_open hK
  exact ⟨ad, e, hc 0 _ rfl, by rw [← add_field _ _ 1 (by omega)]; exact hc 1 _ rfl, by rw [← add_field _ _ 2 (by omega)]; exact hc 2 _ rfl⟩

/-! #### struct type 117 -/
structure SPrp where
  f0 : ByteArray
  f1 : SValue
def zPrp : SPrp := ⟨(⟨#[]⟩ : ByteArray), zValue⟩
def kPrp : Kd SPrp := Kd.iso (Kd.pair Kd.string kValue) (fun x : SPrp => (x.f0, x.f1))
theorem kPrp_open {w : World} {x : SPrp} {cs : List Value} (h : kPrp.K w x cs) : cs = [.string x.f0, .int .i64 x.f1.f0, .int .i64 x.f1.f1, .string x.f1.f2] := by
  obtain ⟨_, _, rfl, rfl, s1⟩ := h
  obtain rfl := kValue_open s1
  exact rfl
theorem kPrp_openM {w : World} {base : Nat} {ok : Nat → Prop} {x : SPrp} {cs : List Value} (h : kPrp.M w base ok x cs) : cs = [.string x.f0, .int .i64 x.f1.f0, .int .i64 x.f1.f1, .string x.f1.f2] := by
  obtain ⟨_, _, rfl, rfl, s1⟩ := h
  obtain rfl := kValue_openM s1
  exact rfl
theorem kPrp_mk (w : World) (x : SPrp)  : kPrp.K w x [.string x.f0, .int .i64 x.f1.f0, .int .i64 x.f1.f1, .string x.f1.f2] := ⟨[.string x.f0], [.int .i64 x.f1.f0, .int .i64 x.f1.f1, .string x.f1.f2], rfl, rfl, (kValue_mk w x.f1 )⟩
theorem kPrp_mkM (w : World) (base : Nat) (ok : Nat → Prop) (x : SPrp)  : kPrp.M w base ok x [.string x.f0, .int .i64 x.f1.f0, .int .i64 x.f1.f1, .string x.f1.f2] := ⟨[.string x.f0], [.int .i64 x.f1.f0, .int .i64 x.f1.f1, .string x.f1.f2], rfl, rfl, (kValue_mkM w base ok x.f1 )⟩
def rd_Prp (xs : List SPrp) (i : Int) : SPrp := xs.getD i.toNat zPrp
theorem at_Prp {w : World} {A : Option Addr} {n : Nat} {xs : List SPrp} (h : Kd.C kPrp w A n xs) (i : Int) (h0 : 0 ≤ i) (h1 : i < n) : ∃ ad , A = some ad ∧ w.cell? (ad.add (i.toNat * 4)) = some (.string (rd_Prp xs i).f0) ∧ w.cell? ⟨(ad.add (i.toNat * 4)).block, (ad.add (i.toNat * 4)).off + 1, none⟩ = some (.int .i64 (rd_Prp xs i).f1.f0) ∧ w.cell? ⟨(ad.add (i.toNat * 4)).block, (ad.add (i.toNat * 4)).off + 2, none⟩ = some (.int .i64 (rd_Prp xs i).f1.f1) ∧ w.cell? ⟨(ad.add (i.toNat * 4)).block, (ad.add (i.toNat * 4)).off + 3, none⟩ = some (.string (rd_Prp xs i).f1.f2) := by
  obtain ⟨ad, c, e, _, hK, hc0⟩ := Kd.C_get h zPrp i h0 h1
  have hc : ∀ j u, c[j]? = some u → w.cell? (ad.add (i.toNat * 4 + j)) = some u := hc0
  obtain rfl := kPrp_open hK
  exact ⟨ad, e, hc 0 _ rfl, by rw [← add_field _ _ 1 (by omega)]; exact hc 1 _ rfl, by rw [← add_field _ _ 2 (by omega)]; exact hc 2 _ rfl, by rw [← add_field _ _ 3 (by omega)]; exact hc 3 _ rfl⟩

def rd_slPrp (xs : List (List SPrp)) (i : Int) : (List SPrp) := xs.getD i.toNat ([] : List SPrp)
theorem at_slPrp {w : World} {A : Option Addr} {n : Nat} {xs : List (List SPrp)} (h : Kd.C (Kd.slice 117 kPrp) w A n xs) (i : Int) (h0 : 0 ≤ i) (h1 : i < n) : ∃ ad A0 c0, A = some ad ∧ w.cell? (ad.add i.toNat) = some (.slice A0 (rd_slPrp xs i).length c0) ∧ (rd_slPrp xs i).length ≤ c0 ∧ kPrp.C w A0 (rd_slPrp xs i).length (rd_slPrp xs i) := by
  obtain ⟨ad, c, e, _, hK, hc0⟩ := Kd.C_get h ([] : List SPrp) i h0 h1
  have hc : ∀ j u, c[j]? = some u → w.cell? (ad.add (i.toNat * 1 + j)) = some u := hc0
  obtain ⟨A0, c0, rfl, l0, g0⟩ := hK
  exact ⟨ad, A0, c0, e, by have hq := hc 0 _ rfl; rwa [Nat.mul_one, Nat.add_zero] at hq, l0, g0⟩

/-! #### struct type 24 -/
structure SVert where
  f0 : Int
  f1 : ByteArray
  f2 : (List SPrp)
def zVert : SVert := ⟨(0 : Int), (⟨#[]⟩ : ByteArray), ([] : List SPrp)⟩
def kVert : Kd SVert := Kd.iso (Kd.pair (Kd.int .i64) (Kd.pair Kd.string (Kd.slice 117 kPrp))) (fun x : SVert => (x.f0, x.f1, x.f2))
theorem kVert_open {w : World} {x : SVert} {cs : List Value} (h : kVert.K w x cs) : ∃ A2 c2, cs = [.int .i64 x.f0, .string x.f1, .slice A2 x.f2.length c2] ∧ x.f2.length ≤ c2 ∧ kPrp.C w A2 x.f2.length x.f2 := by
  obtain ⟨_, _, rfl, rfl, ⟨_, _, rfl, rfl, ⟨A2, c2, rfl, l2, g2⟩⟩⟩ := h
  exact ⟨A2, c2, rfl, l2, g2⟩
theorem kVert_openM {w : World} {base : Nat} {ok : Nat → Prop} {x : SVert} {cs : List Value} (h : kVert.M w base ok x cs) : ∃ v2, cs = [.int .i64 x.f0, .string x.f1, v2] ∧ kPrp.R 117 w base ok v2 x.f2 := by
  obtain ⟨_, _, rfl, rfl, ⟨_, _, rfl, rfl, ⟨v2, rfl, g2⟩⟩⟩ := h
  exact ⟨v2, rfl, g2⟩
theorem kVert_mk (w : World) (x : SVert) {A2 : Option Addr} {c2 : Nat} (l2 : x.f2.length ≤ c2) (g2 : kPrp.C w A2 x.f2.length x.f2) : kVert.K w x [.int .i64 x.f0, .string x.f1, .slice A2 x.f2.length c2] := ⟨[.int .i64 x.f0], [.string x.f1, .slice A2 x.f2.length c2], rfl, rfl, ⟨[.string x.f1], [.slice A2 x.f2.length c2], rfl, rfl, ⟨A2, c2, rfl, l2, g2⟩⟩⟩
theorem kVert_mkM (w : World) (base : Nat) (ok : Nat → Prop) (x : SVert) {v2 : Value} (g2 : kPrp.R 117 w base ok v2 x.f2) : kVert.M w base ok x [.int .i64 x.f0, .string x.f1, v2] := ⟨[.int .i64 x.f0], [.string x.f1, v2], rfl, rfl, ⟨[.string x.f1], [v2], rfl, rfl, ⟨v2, rfl, g2⟩⟩⟩
def rd_Vert (xs : List SVert) (i : Int) : SVert := xs.getD i.toNat zVert
theorem at_Vert {w : World} {A : Option Addr} {n : Nat} {xs : List SVert} (h : Kd.C kVert w A n xs) (i : Int) (h0 : 0 ≤ i) (h1 : i < n) : ∃ ad A2 c2, A = some ad ∧ w.cell? (ad.add (i.toNat * 3)) = some (.int .i64 (rd_Vert xs i).f0) ∧ w.cell? ⟨(ad.add (i.toNat * 3)).block, (ad.add (i.toNat * 3)).off + 1, none⟩ = some (.string (rd_Vert xs i).f1) ∧ w.cell? ⟨(ad.add (i.toNat * 3)).block, (ad.add (i.toNat * 3)).off + 2, none⟩ = some (.slice A2 (rd_Vert xs i).f2.length c2) ∧ (rd_Vert xs i).f2.length ≤ c2 ∧ kPrp.C w A2 (rd_Vert xs i).f2.length (rd_Vert xs i).f2 := by
  obtain ⟨ad, c, e, _, hK, hc0⟩ := Kd.C_get h zVert i h0 h1
  have hc : ∀ j u, c[j]? = some u → w.cell? (ad.add (i.toNat * 3 + j)) = some u := hc0
  obtain ⟨A2, c2, rfl, l2, g2⟩ := kVert_open hK
  exact ⟨ad, A2, c2, e, hc 0 _ rfl, by rw [← add_field _ _ 1 (by omega)]; exact hc 1 _ rfl, by rw [← add_field _ _ 2 (by omega)]; exact hc 2 _ rfl, l2, g2⟩

/-! #### struct type 35 -/
structure SEdg where
  f0 : Int
  f1 : ByteArray
  f2 : Int
  f3 : Int
  f4 : (List SPrp)
def zEdg : SEdg := ⟨(0 : Int), (⟨#[]⟩ : ByteArray), (0 : Int), (0 : Int), ([] : List SPrp)⟩
def kEdg : Kd SEdg := Kd.iso (Kd.pair (Kd.int .i64) (Kd.pair Kd.string (Kd.pair (Kd.int .i64) (Kd.pair (Kd.int .i64) (Kd.slice 117 kPrp))))) (fun x : SEdg => (x.f0, x.f1, x.f2, x.f3, x.f4))
theorem kEdg_open {w : World} {x : SEdg} {cs : List Value} (h : kEdg.K w x cs) : ∃ A4 c4, cs = [.int .i64 x.f0, .string x.f1, .int .i64 x.f2, .int .i64 x.f3, .slice A4 x.f4.length c4] ∧ x.f4.length ≤ c4 ∧ kPrp.C w A4 x.f4.length x.f4 := by
  obtain ⟨_, _, rfl, rfl, ⟨_, _, rfl, rfl, ⟨_, _, rfl, rfl, ⟨_, _, rfl, rfl, ⟨A4, c4, rfl, l4, g4⟩⟩⟩⟩⟩ := h
  exact ⟨A4, c4, rfl, l4, g4⟩
theorem kEdg_openM {w : World} {base : Nat} {ok : Nat → Prop} {x : SEdg} {cs : List Value} (h : kEdg.M w base ok x cs) : ∃ v4, cs = [.int .i64 x.f0, .string x.f1, .int .i64 x.f2, .int .i64 x.f3, v4] ∧ kPrp.R 117 w base ok v4 x.f4 := by
  obtain ⟨_, _, rfl, rfl, ⟨_, _, rfl, rfl, ⟨_, _, rfl, rfl, ⟨_, _, rfl, rfl, ⟨v4, rfl, g4⟩⟩⟩⟩⟩ := h
  exact ⟨v4, rfl, g4⟩
theorem kEdg_mk (w : World) (x : SEdg) {A4 : Option Addr} {c4 : Nat} (l4 : x.f4.length ≤ c4) (g4 : kPrp.C w A4 x.f4.length x.f4) : kEdg.K w x [.int .i64 x.f0, .string x.f1, .int .i64 x.f2, .int .i64 x.f3, .slice A4 x.f4.length c4] := ⟨[.int .i64 x.f0], [.string x.f1, .int .i64 x.f2, .int .i64 x.f3, .slice A4 x.f4.length c4], rfl, rfl, ⟨[.string x.f1], [.int .i64 x.f2, .int .i64 x.f3, .slice A4 x.f4.length c4], rfl, rfl, ⟨[.int .i64 x.f2], [.int .i64 x.f3, .slice A4 x.f4.length c4], rfl, rfl, ⟨[.int .i64 x.f3], [.slice A4 x.f4.length c4], rfl, rfl, ⟨A4, c4, rfl, l4, g4⟩⟩⟩⟩⟩
theorem kEdg_mkM (w : World) (base : Nat) (ok : Nat → Prop) (x : SEdg) {v4 : Value} (g4 : kPrp.R 117 w base ok v4 x.f4) : kEdg.M w base ok x [.int .i64 x.f0, .string x.f1, .int .i64 x.f2, .int .i64 x.f3, v4] := ⟨[.int .i64 x.f0], [.string x.f1, .int .i64 x.f2, .int .i64 x.f3, v4], rfl, rfl, ⟨[.string x.f1], [.int .i64 x.f2, .int .i64 x.f3, v4], rfl, rfl, ⟨[.int .i64 x.f2], [.int .i64 x.f3, v4], rfl, rfl, ⟨[.int .i64 x.f3], [v4], rfl, rfl, ⟨v4, rfl, g4⟩⟩⟩⟩⟩
def rd_Edg (xs : List SEdg) (i : Int) : SEdg := xs.getD i.toNat zEdg
theorem at_Edg {w : World} {A : Option Addr} {n : Nat} {xs : List SEdg} (h : Kd.C kEdg w A n xs) (i : Int) (h0 : 0 ≤ i) (h1 : i < n) : ∃ ad A4 c4, A = some ad ∧ w.cell? (ad.add (i.toNat * 5)) = some (.int .i64 (rd_Edg xs i).f0) ∧ w.cell? ⟨(ad.add (i.toNat * 5)).block, (ad.add (i.toNat * 5)).off + 1, none⟩ = some (.string (rd_Edg xs i).f1) ∧ w.cell? ⟨(ad.add (i.toNat * 5)).block, (ad.add (i.toNat * 5)).off + 2, none⟩ = some (.int .i64 (rd_Edg xs i).f2) ∧ w.cell? ⟨(ad.add (i.toNat * 5)).block, (ad.add (i.toNat * 5)).off + 3, none⟩ = some (.int .i64 (rd_Edg xs i).f3) ∧ w.cell? ⟨(ad.add (i.toNat * 5)).block, (ad.add (i.toNat * 5)).off + 4, none⟩ = some (.slice A4 (rd_Edg xs i).f4.length c4) ∧ (rd_Edg xs i).f4.length ≤ c4 ∧ kPrp.C w A4 (rd_Edg xs i).f4.length (rd_Edg xs i).f4 := by
  obtain ⟨ad, c, e, _, hK, hc0⟩ := Kd.C_get h zEdg i h0 h1
  have hc : ∀ j u, c[j]? = some u → w.cell? (ad.add (i.toNat * 5 + j)) = some u := hc0
  obtain ⟨A4, c4, rfl, l4, g4⟩ := kEdg_open hK
  exact ⟨ad, A4, c4, e, hc 0 _ rfl, by rw [← add_field _ _ 1 (by omega)]; exact hc 1 _ rfl, by rw [← add_field _ _ 2 (by omega)]; exact hc 2 _ rfl, by rw [← add_field _ _ 3 (by omega)]; exact hc 3 _ rfl, by rw [← add_field _ _ 4 (by omega)]; exact hc 4 _ rfl, l4, g4⟩

/-! #### struct type 39 -/
structure SEntry where
  f0 : ByteArray
  f1 : ByteArray
def zEntry : SEntry := ⟨(⟨#[]⟩ : ByteArray), (⟨#[]⟩ : ByteArray)⟩
def kEntry : Kd SEntry := Kd.iso (Kd.pair Kd.string Kd.string) (fun x : SEntry => (x.f0, x.f1))
theorem kEntry_open {w : World} {x : SEntry} {cs : List Value} (h : kEntry.K w x cs) : cs = [.string x.f0, .string x.f1] := by
  obtain ⟨_, _, rfl, rfl, rfl⟩ := h
  exact rfl
theorem kEntry_openM {w : World} {base : Nat} {ok : Nat → Prop} {x : SEntry} {cs : List Value} (h : kEntry.M w base ok x cs) : cs = [.string x.f0, .string x.f1] := by
  obtain ⟨_, _, rfl, rfl, rfl⟩ := h
  exact rfl
theorem kEntry_mk (w : World) (x : SEntry)  : kEntry.K w x [.string x.f0, .string x.f1] := ⟨[.string x.f0], [.string x.f1], rfl, rfl, rfl⟩
theorem kEntry_mkM (w : World) (base : Nat) (ok : Nat → Prop) (x : SEntry)  : kEntry.M w base ok x [.string x.f0, .string x.f1] := ⟨[.string x.f0], [.string x.f1], rfl, rfl, rfl⟩
def rd_Entry (xs : List SEntry) (i : Int) : SEntry := xs.getD i.toNat zEntry
theorem at_Entry {w : World} {A : Option Addr} {n : Nat} {xs : List SEntry} (h : Kd.C kEntry w A n xs) (i : Int) (h0 : 0 ≤ i) (h1 : i < n) : ∃ ad , A = some ad ∧ w.cell? (ad.add (i.toNat * 2)) = some (.string (rd_Entry xs i).f0) ∧ w.cell? ⟨(ad.add (i.toNat * 2)).block, (ad.add (i.toNat * 2)).off + 1, none⟩ = some (.string (rd_Entry xs i).f1) := by
  obtain ⟨ad, c, e, _, hK, hc0⟩ := Kd.C_get h zEntry i h0 h1
  have hc : ∀ j u, c[j]? = some u → w.cell? (ad.add (i.toNat * 2 + j)) = some u := hc0
  obtain rfl := kEntry_open hK
  exact ⟨ad, e, hc 0 _ rfl, by rw [← add_field _ _ 1 (by omega)]; exact hc 1 _ rfl⟩

/-! #### struct type 55 -/
structure SKey where
  f0 : Int
  f1 : Int
  f2 : Int
  f3 : ByteArray
def zKey : SKey := ⟨(0 : Int), (0 : Int), (0 : Int), (⟨#[]⟩ : ByteArray)⟩
def kKey : Kd SKey := Kd.iso (Kd.pair (Kd.int .i64) (Kd.pair (Kd.int .i64) (Kd.pair (Kd.int .i64) Kd.string))) (fun x : SKey => (x.f0, x.f1, x.f2, x.f3))
theorem kKey_open {w : World} {x : SKey} {cs : List Value} (h : kKey.K w x cs) : cs = [.int .i64 x.f0, .int .i64 x.f1, .int .i64 x.f2, .string x.f3] := by
  obtain ⟨_, _, rfl, rfl, ⟨_, _, rfl, rfl, ⟨_, _, rfl, rfl, rfl⟩⟩⟩ := h
  exact rfl
theorem kKey_openM {w : World} {base : Nat} {ok : Nat → Prop} {x : SKey} {cs : List Value} (h : kKey.M w base ok x cs) : cs = [.int .i64 x.f0, .int .i64 x.f1, .int .i64 x.f2, .string x.f3] := by
  obtain ⟨_, _, rfl, rfl, ⟨_, _, rfl, rfl, ⟨_, _, rfl, rfl, rfl⟩⟩⟩ := h
  exact rfl
theorem kKey_mk (w : World) (x : SKey)  : kKey.K w x [.int .i64 x.f0, .int .i64 x.f1, .int .i64 x.f2, .string x.f3] := ⟨[.int .i64 x.f0], [.int .i64 x.f1, .int .i64 x.f2, .string x.f3], rfl, rfl, ⟨[.int .i64 x.f1], [.int .i64 x.f2, .string x.f3], rfl, rfl, ⟨[.int .i64 x.f2], [.string x.f3], rfl, rfl, rfl⟩⟩⟩
theorem kKey_mkM (w : World) (base : Nat) (ok : Nat → Prop) (x : SKey)  : kKey.M w base ok x [.int .i64 x.f0, .int .i64 x.f1, .int .i64 x.f2, .string x.f3] := ⟨[.int .i64 x.f0], [.int .i64 x.f1, .int .i64 x.f2, .string x.f3], rfl, rfl, ⟨[.int .i64 x.f1], [.int .i64 x.f2, .string x.f3], rfl, rfl, ⟨[.int .i64 x.f2], [.string x.f3], rfl, rfl, rfl⟩⟩⟩
def rd_Key (xs : List SKey) (i : Int) : SKey := xs.getD i.toNat zKey
theorem at_Key {w : World} {A : Option Addr} {n : Nat} {xs : List SKey} (h : Kd.C kKey w A n xs) (i : Int) (h0 : 0 ≤ i) (h1 : i < n) : ∃ ad , A = some ad ∧ w.cell? (ad.add (i.toNat * 4)) = some (.int .i64 (rd_Key xs i).f0) ∧ w.cell? ⟨(ad.add (i.toNat * 4)).block, (ad.add (i.toNat * 4)).off + 1, none⟩ = some (.int .i64 (rd_Key xs i).f1) ∧ w.cell? ⟨(ad.add (i.toNat * 4)).block, (ad.add (i.toNat * 4)).off + 2, none⟩ = some (.int .i64 (rd_Key xs i).f2) ∧ w.cell? ⟨(ad.add (i.toNat * 4)).block, (ad.add (i.toNat * 4)).off + 3, none⟩ = some (.string (rd_Key xs i).f3) := by
  obtain ⟨ad, c, e, _, hK, hc0⟩ := Kd.C_get h zKey i h0 h1
  have hc : ∀ j u, c[j]? = some u → w.cell? (ad.add (i.toNat * 4 + j)) = some u := hc0
  obtain rfl := kKey_open hK
  exact ⟨ad, e, hc 0 _ rfl, by rw [← add_field _ _ 1 (by omega)]; exact hc 1 _ rfl, by rw [← add_field _ _ 2 (by omega)]; exact hc 2 _ rfl, by rw [← add_field _ _ 3 (by omega)]; exact hc 3 _ rfl⟩

def rd_slVert (xs : List (List SVert)) (i : Int) : (List SVert) := xs.getD i.toNat ([] : List SVert)
theorem at_slVert {w : World} {A : Option Addr} {n : Nat} {xs : List (List SVert)} (h : Kd.C (Kd.slice 24 kVert) w A n xs) (i : Int) (h0 : 0 ≤ i) (h1 : i < n) : ∃ ad A0 c0, A = some ad ∧ w.cell? (ad.add i.toNat) = some (.slice A0 (rd_slVert xs i).length c0) ∧ (rd_slVert xs i).length ≤ c0 ∧ kVert.C w A0 (rd_slVert xs i).length (rd_slVert xs i) := by
  obtain ⟨ad, c, e, _, hK, hc0⟩ := Kd.C_get h ([] : List SVert) i h0 h1
  have hc : ∀ j u, c[j]? = some u → w.cell? (ad.add (i.toNat * 1 + j)) = some u := hc0
  obtain ⟨A0, c0, rfl, l0, g0⟩ := hK
  exact ⟨ad, A0, c0, e, by have hq := hc 0 _ rfl; rwa [Nat.mul_one, Nat.add_zero] at hq, l0, g0⟩

def rd_slEdg (xs : List (List SEdg)) (i : Int) : (List SEdg) := xs.getD i.toNat ([] : List SEdg)
theorem at_slEdg {w : World} {A : Option Addr} {n : Nat} {xs : List (List SEdg)} (h : Kd.C (Kd.slice 35 kEdg) w A n xs) (i : Int) (h0 : 0 ≤ i) (h1 : i < n) : ∃ ad A0 c0, A = some ad ∧ w.cell? (ad.add i.toNat) = some (.slice A0 (rd_slEdg xs i).length c0) ∧ (rd_slEdg xs i).length ≤ c0 ∧ kEdg.C w A0 (rd_slEdg xs i).length (rd_slEdg xs i) := by
  obtain ⟨ad, c, e, _, hK, hc0⟩ := Kd.C_get h ([] : List SEdg) i h0 h1
  have hc : ∀ j u, c[j]? = some u → w.cell? (ad.add (i.toNat * 1 + j)) = some u := hc0
  obtain ⟨A0, c0, rfl, l0, g0⟩ := hK
  exact ⟨ad, A0, c0, e, by have hq := hc 0 _ rfl; rwa [Nat.mul_one, Nat.add_zero] at hq, l0, g0⟩

def rd_slEntry (xs : List (List SEntry)) (i : Int) : (List SEntry) := xs.getD i.toNat ([] : List SEntry)
theorem at_slEntry {w : World} {A : Option Addr} {n : Nat} {xs : List (List SEntry)} (h : Kd.C (Kd.slice 39 kEntry) w A n xs) (i : Int) (h0 : 0 ≤ i) (h1 : i < n) : ∃ ad A0 c0, A = some ad ∧ w.cell? (ad.add i.toNat) = some (.slice A0 (rd_slEntry xs i).length c0) ∧ (rd_slEntry xs i).length ≤ c0 ∧ kEntry.C w A0 (rd_slEntry xs i).length (rd_slEntry xs i) := by
  obtain ⟨ad, c, e, _, hK, hc0⟩ := Kd.C_get h ([] : List SEntry) i h0 h1
  have hc : ∀ j u, c[j]? = some u → w.cell? (ad.add (i.toNat * 1 + j)) = some u := hc0
  obtain ⟨A0, c0, rfl, l0, g0⟩ := hK
  exact ⟨ad, A0, c0, e, by have hq := hc 0 _ rfl; rwa [Nat.mul_one, Nat.add_zero] at hq, l0, g0⟩

def rd_slKey (xs : List (List SKey)) (i : Int) : (List SKey) := xs.getD i.toNat ([] : List SKey)
theorem at_slKey {w : World} {A : Option Addr} {n : Nat} {xs : List (List SKey)} (h : Kd.C (Kd.slice 55 kKey) w A n xs) (i : Int) (h0 : 0 ≤ i) (h1 : i < n) : ∃ ad A0 c0, A = some ad ∧ w.cell? (ad.add i.toNat) = some (.slice A0 (rd_slKey xs i).length c0) ∧ (rd_slKey xs i).length ≤ c0 ∧ kKey.C w A0 (rd_slKey xs i).length (rd_slKey xs i) := by
  obtain ⟨ad, c, e, _, hK, hc0⟩ := Kd.C_get h ([] : List SKey) i h0 h1
  have hc : ∀ j u, c[j]? = some u → w.cell? (ad.add (i.toNat * 1 + j)) = some u := hc0
  obtain ⟨A0, c0, rfl, l0, g0⟩ := hK
  exact ⟨ad, A0, c0, e, by have hq := hc 0 _ rfl; rwa [Nat.mul_one, Nat.add_zero] at hq, l0, g0⟩

def rd_slint (xs : List (List Int)) (i : Int) : (List Int) := xs.getD i.toNat ([] : List Int)
theorem at_slint {w : World} {A : Option Addr} {n : Nat} {xs : List (List Int)} (h : Kd.C (Kd.slice 3 (Kd.int .i64)) w A n xs) (i : Int) (h0 : 0 ≤ i) (h1 : i < n) : ∃ ad A0 c0, A = some ad ∧ w.cell? (ad.add i.toNat) = some (.slice A0 (rd_slint xs i).length c0) ∧ (rd_slint xs i).length ≤ c0 ∧ (Kd.int .i64).C w A0 (rd_slint xs i).length (rd_slint xs i) := by
  obtain ⟨ad, c, e, _, hK, hc0⟩ := Kd.C_get h ([] : List Int) i h0 h1
  have hc : ∀ j u, c[j]? = some u → w.cell? (ad.add (i.toNat * 1 + j)) = some u := hc0
  obtain ⟨A0, c0, rfl, l0, g0⟩ := hK
  exact ⟨ad, A0, c0, e, by have hq := hc 0 _ rfl; rwa [Nat.mul_one, Nat.add_zero] at hq, l0, g0⟩

def rd_slstring (xs : List (List ByteArray)) (i : Int) : (List ByteArray) := xs.getD i.toNat ([] : List ByteArray)
theorem at_slstring {w : World} {A : Option Addr} {n : Nat} {xs : List (List ByteArray)} (h : Kd.C (Kd.slice 9 Kd.string) w A n xs) (i : Int) (h0 : 0 ≤ i) (h1 : i < n) : ∃ ad A0 c0, A = some ad ∧ w.cell? (ad.add i.toNat) = some (.slice A0 (rd_slstring xs i).length c0) ∧ (rd_slstring xs i).length ≤ c0 ∧ Kd.string.C w A0 (rd_slstring xs i).length (rd_slstring xs i) := by
  obtain ⟨ad, c, e, _, hK, hc0⟩ := Kd.C_get h ([] : List ByteArray) i h0 h1
  have hc : ∀ j u, c[j]? = some u → w.cell? (ad.add (i.toNat * 1 + j)) = some u := hc0
  obtain ⟨A0, c0, rfl, l0, g0⟩ := hK
  exact ⟨ad, A0, c0, e, by have hq := hc 0 _ rfl; rwa [Nat.mul_one, Nat.add_zero] at hq, l0, g0⟩

end Go.Proofs.Ytonbnlfijmapfaa
/- Plain: what texts and values bytes begin with. No condition. -/
namespace Go.Proofs.Ytonbnlfijmapfaa
open Go Go.Proofs.YtonbnlfijmapfaaW.PrintWords

/-- A text, from what is left, what was read, and where. -/
def txGo : List Int → List Int → Int → SValue × Int × Int
  | [], _, _ => (zValue, 0, 20)
  | [x], acc, _ => if x = 0 then (zValue, 0, 20) else if 200 ≤ acc.length then (zValue, 0, 32) else (zValue, 0, 20)
  | x :: y :: t, acc, at_ =>
    if x = 0 then
      (if y = 0 then (⟨2, 0, strOfNums acc⟩, at_ + 2, 0) else if y = 255 then (if 200 ≤ acc.length then (zValue, 0, 32) else txGo t (acc ++ [0]) (at_ + 2)) else (zValue, 0, 10))
    else if 200 ≤ acc.length then (zValue, 0, 32) else txGo (y :: t) (acc ++ [x]) (at_ + 1)
theorem txGo_nil (acc : List Int) (a : Int) : txGo [] acc a = (zValue, 0, 20) := by rw [txGo]
theorem txGo_many (x : Int) (t acc : List Int) (a : Int) (h : ¬ x = 0) (hl : 200 ≤ acc.length) : txGo (x :: t) acc a = (zValue, 0, 32) := by
  cases t with
  | nil => rw [txGo, if_neg h, if_pos hl]
  | cons y t => rw [txGo, if_neg h, if_pos hl]
theorem txGo_one (x : Int) (t acc : List Int) (a : Int) (h : ¬ x = 0) (hl : ¬ 200 ≤ acc.length) : txGo (x :: t) acc a = txGo t (acc ++ [x]) (a + 1) := by
  cases t with
  | nil => simp only [txGo, if_neg h, if_neg hl]
  | cons y t => rw [txGo, if_neg h, if_neg hl]
theorem txGo_short (acc : List Int) (a : Int) : txGo [0] acc a = (zValue, 0, 20) := by rw [txGo, if_pos rfl]
theorem txGo_end (t acc : List Int) (a : Int) : txGo (0 :: 0 :: t) acc a = (⟨2, 0, strOfNums acc⟩, a + 2, 0) := by rw [txGo, if_pos rfl, if_pos rfl]
theorem txGo_form (y : Int) (t acc : List Int) (a : Int) (h : ¬ y = 0) (h2 : ¬ y = 255) : txGo (0 :: y :: t) acc a = (zValue, 0, 10) := by rw [txGo, if_pos rfl, if_neg h, if_neg h2]
theorem txGo_zmany (t acc : List Int) (a : Int) (hl : 200 ≤ acc.length) : txGo (0 :: 255 :: t) acc a = (zValue, 0, 32) := by rw [txGo, if_pos rfl, if_neg (by decide), if_pos rfl, if_pos hl]
theorem txGo_zero (t acc : List Int) (a : Int) (hl : ¬ 200 ≤ acc.length) : txGo (0 :: 255 :: t) acc a = txGo t (acc ++ [0]) (a + 2) := by rw [txGo, if_pos rfl, if_neg (by decide), if_pos rfl, if_neg hl]
/-- A value. -/
def takeV : List Int → SValue × Int × Int
  | [] => (zValue, 0, 20)
  | x :: t => if x = 2 then txGo t [] 1 else if x = 1 then (if t.length < 8 then (zValue, 0, 20) else (⟨1, numOf (t.take 8) - 9223372036854775808, ⟨#[]⟩⟩, 9, 0)) else (zValue, 0, 22)
end Go.Proofs.Ytonbnlfijmapfaa
/- Small laws for the walks: an append onto a row of the call's own; what is kept. No condition. -/
namespace Go.Proofs.Ytonbnlfijmapfaa
open Go.RowKit Go.Shelf Go.Proofs.YtonbnlfijmapfaaW.PrintWords
set_option linter.unusedVariables false
set_option linter.unusedSimpArgs false

theorem ret_bool {a b : Bool} (h : a = b) : Ending.returned (.bool a) = .returned (.bool b) := by rw [h]
theorem ret_int {k : IntKind} {a b : Int} (h : a = b) : Ending.returned (.int k a) = .returned (.int k b) := by rw [h]
theorem ret_str {a b : ByteArray} (h : a = b) : Ending.returned (.string a) = .returned (.string b) := by rw [h]

theorem M_int {k : IntKind} {w : World} {base : Nat} {ok : Nat → Prop} (p : Int) : (Kd.int k).M w base ok p [.int k p] := rfl
theorem M_string {w : World} {base : Nat} {ok : Nat → Prop} (p : ByteArray) : Kd.string.M w base ok p [.string p] := rfl
theorem M_bool {w : World} {base : Nat} {ok : Nat → Prop} (p : Bool) : Kd.bool.M w base ok p [.bool p] := rfl

section
variable {P : Program} {ops : Array Oper} {rest : List Oper} {o : Oper} {a : Act} {Q : Exit → Act → World → Prop} {α : Type} {d : Kd α}
/-- append(v, x), the row first. -/
theorem app_one {base e : Nat} {W : World} {ok : Nat → Prop} {v : Value} {xs : List α} (HO : d.R e W base ok v xs) {z : Value} {bytes : Nat}
    (hinfo : (P.info? e).map (fun i => (i.zero, i.size, i.bytes)) = some (some z, d.sz, bytes)) {t : TypeId} (ht : P.underlying t = some (.slice e)) {p : α} {cs : List Value}
    (hp : d.M W base (fun k => ok k ∧ some k ≠ v.ownBlock) p cs) (hfresh : ∀ k, W.heap.size ≤ k → ok k) (hbase : base ≤ W.heap.size) (hl : (xs.length + 1) * bytes ≤ 140737488355328)
    (hz : z.cells.size = d.sz) (hs0 : 0 < d.sz) (hb0 : 0 < bytes) {s x : Operand}
    (hgd : o.guard = none) (ho : o.op = .call { callee := .builtin .append, args := #[s, x], argTypes := #[t, t] }) (hs : a.eval s = v) (hx : a.eval x = .slice (some ⟨W.heap.size, 0, none⟩) 1 1)
    (h : ∀ v1 w1, d.R e w1 base ok v1 (xs ++ [p]) → Below base W w1 → W.grownBy w1 v.ownBlock → (v1.ownBlock = v.ownBlock ∨ ∃ b, v1.ownBlock = some b ∧ W.heap.size ≤ b) → wpList P ops Q rest (a.put o.dst v1) w1) :
    wpList P ops Q (o :: rest) a (W.alloc (.cells cs.toArray e)) :=
  Kd.R_append d (w0 := W) base hgd s x t e z bytes ho ht hinfo hz hs0 hb0 v xs p cs ok _ hs hx hp (fun _ hk => hk) hfresh HO (Below.refl _ _) hbase hl h
end

theorem R_iterAt {α : Type} {d : Kd α} {e : Nat} {w : World} {base : Nat} {ok : Nat → Prop} {v : Value} {xs : List α} (h : d.R e w base ok v xs) {k : Nat} (hk : k < base) (s : ByteArray) (p : Nat) : d.R e (w.iterAt k s p) base ok v xs :=
  Kd.R_mono (Kd.R_move (Kd.R_bound h) (fun j hj => Lib.iterAt_other w k j s p (by have := hj.2.1; omega))) (fun _ hj => hj.1)
theorem below_down {B B' : Nat} {w w' : World} (h : Below B w w') (hB : B' ≤ B) : Below B' w w' := ⟨h.os, h.tape, h.output, h.size, fun i hi => h.block i (by omega)⟩
theorem drop_cons {α : Type} (xs : List α) (k : Nat) (z : α) (h : k < xs.length) : xs.drop k = xs.getD k z :: xs.drop (k + 1) := by
  rw [List.drop_eq_getElem_cons h]; simp [List.getD_eq_getElem?_getD, List.getElem?_eq_getElem h]

theorem info_i32 : (Try.prog.info? 21).map (fun i => (i.zero, i.size, i.bytes)) = some (some (.int .i32 0), 1, 4) := by kernel_rfl
theorem info_i64 : (Try.prog.info? 3).map (fun i => (i.zero, i.size, i.bytes)) = some (some (.int .i64 0), 1, 8) := by kernel_rfl
theorem info_u8 : (Try.prog.info? 5).map (fun i => (i.zero, i.size, i.bytes)) = some (some (.int .u8 0), 1, 1) := by kernel_rfl
theorem add_zero_ (ad : Addr) : ad.add 0 = ad := by simp [Addr.add]
theorem bcell {W w1 : World} (hb : Below W.heap.size W w1) : (∀ b o, b < W.heap.size → w1.cell? ⟨b, o, none⟩ = W.cell? ⟨b, o, none⟩) ∧ (∀ b o, b < W.heap.size → w1.frozen? ⟨b, o, none⟩ = W.frozen? ⟨b, o, none⟩) :=
  ⟨fun b o h => hb.cell (p := ⟨b, o, none⟩) h, fun b o h => hb.frozen (p := ⟨b, o, none⟩) h⟩
/-- A variadic argument of one. -/
theorem C_box {α : Type} (d : Kd α) (hsz : 0 < d.sz) (W : World) (p : α) (cs : Array Value) (t : Nat) (hK : d.K (W.alloc (.cells cs t)) p cs.toList) : d.C (W.alloc (.cells cs t)) (some ⟨W.heap.size, 0, none⟩) [p].length [p] := by
  refine ⟨rfl, by simp, fun _ => ⟨_, rfl, fun j q hq => ?_⟩⟩
  have hl := d.K_len hK
  obtain ⟨rfl, rfl⟩ : j = 0 ∧ p = q := by
    cases j with
    | zero => simpa using hq
    | succ j => simp at hq
  refine ⟨cs.toList, hl, hK, fun i u hu => ?_⟩
  rw [add_plain]
  have := cell_of_row (W.alloc (.cells cs t)) W.heap.size (0 * d.sz + i) cs t (0, 0) (heap_alloc_new W _)
  rw [this]
  simpa using hu
theorem C_boxd {α : Type} (d : Kd α) (hsz : 0 < d.sz) (W : World) (g : Nat) (hg : g = W.heap.size) (p : α) (cs : Array Value) (t : Nat) (hK : d.K (W.alloc (.cells cs t)).drew p cs.toList) : d.C (W.alloc (.cells cs t)).drew (some ⟨g, 0, none⟩) [p].length [p] := by
  subst hg
  refine ⟨rfl, by simp, fun _ => ⟨_, rfl, fun j q hq => ?_⟩⟩
  have hl := d.K_len hK
  obtain ⟨rfl, rfl⟩ : j = 0 ∧ p = q := by
    cases j with
    | zero => simpa using hq
    | succ j => simp at hq
  refine ⟨cs.toList, hl, hK, fun i u hu => ?_⟩
  rw [add_plain]
  have := cell_of_row (W.alloc (.cells cs t)).drew W.heap.size (0 * d.sz + i) cs t (0, 0) (heap_alloc_new W _)
  rw [this]
  simpa using hu
theorem C_boxg {α : Type} (d : Kd α) (hsz : 0 < d.sz) (W : World) (g : Nat) (hg : g = W.heap.size) (p : α) (cs : Array Value) (t : Nat) (hK : d.K (W.alloc (.cells cs t)) p cs.toList) : d.C (W.alloc (.cells cs t)) (some ⟨g, 0, none⟩) [p].length [p] := by
  subst hg; exact C_box d hsz W p cs t hK
/-! ### cells are kept behind a call -/
theorem keep1 {W w2 : World} (hb : Below W.heap.size W w2) {a0 : Addr} {v0 : Value} (h : W.cell? a0 = some v0) : w2.cell? a0 = some v0 := pw_cell_below hb h
theorem keep2 {W w2 : World} (hb : Below W.heap.size W w2) {a0 a1 : Addr} {v0 v1 : Value} (h : W.cell? a0 = some v0 ∧ W.cell? a1 = some v1) : w2.cell? a0 = some v0 ∧ w2.cell? a1 = some v1 := ⟨pw_cell_below hb h.1, pw_cell_below hb h.2⟩
theorem keep3 {W w2 : World} (hb : Below W.heap.size W w2) {a0 a1 a2 : Addr} {v0 v1 v2 : Value} (h : W.cell? a0 = some v0 ∧ W.cell? a1 = some v1 ∧ W.cell? a2 = some v2) : w2.cell? a0 = some v0 ∧ w2.cell? a1 = some v1 ∧ w2.cell? a2 = some v2 := ⟨pw_cell_below hb h.1, pw_cell_below hb h.2.1, pw_cell_below hb h.2.2⟩
theorem keep4 {W w2 : World} (hb : Below W.heap.size W w2) {a0 a1 a2 a3 : Addr} {v0 v1 v2 v3 : Value} (h : W.cell? a0 = some v0 ∧ W.cell? a1 = some v1 ∧ W.cell? a2 = some v2 ∧ W.cell? a3 = some v3) : w2.cell? a0 = some v0 ∧ w2.cell? a1 = some v1 ∧ w2.cell? a2 = some v2 ∧ w2.cell? a3 = some v3 := ⟨pw_cell_below hb h.1, pw_cell_below hb h.2.1, pw_cell_below hb h.2.2.1, pw_cell_below hb h.2.2.2⟩
theorem keep5 {W w2 : World} (hb : Below W.heap.size W w2) {a0 a1 a2 a3 a4 : Addr} {v0 v1 v2 v3 v4 : Value} (h : W.cell? a0 = some v0 ∧ W.cell? a1 = some v1 ∧ W.cell? a2 = some v2 ∧ W.cell? a3 = some v3 ∧ W.cell? a4 = some v4) : w2.cell? a0 = some v0 ∧ w2.cell? a1 = some v1 ∧ w2.cell? a2 = some v2 ∧ w2.cell? a3 = some v3 ∧ w2.cell? a4 = some v4 := ⟨pw_cell_below hb h.1, pw_cell_below hb h.2.1, pw_cell_below hb h.2.2.1, pw_cell_below hb h.2.2.2.1, pw_cell_below hb h.2.2.2.2⟩
theorem keep6 {W w2 : World} (hb : Below W.heap.size W w2) {a0 a1 a2 a3 a4 a5 : Addr} {v0 v1 v2 v3 v4 v5 : Value} (h : W.cell? a0 = some v0 ∧ W.cell? a1 = some v1 ∧ W.cell? a2 = some v2 ∧ W.cell? a3 = some v3 ∧ W.cell? a4 = some v4 ∧ W.cell? a5 = some v5) : w2.cell? a0 = some v0 ∧ w2.cell? a1 = some v1 ∧ w2.cell? a2 = some v2 ∧ w2.cell? a3 = some v3 ∧ w2.cell? a4 = some v4 ∧ w2.cell? a5 = some v5 := ⟨pw_cell_below hb h.1, pw_cell_below hb h.2.1, pw_cell_below hb h.2.2.1, pw_cell_below hb h.2.2.2.1, pw_cell_below hb h.2.2.2.2.1, pw_cell_below hb h.2.2.2.2.2⟩
theorem keep7 {W w2 : World} (hb : Below W.heap.size W w2) {a0 a1 a2 a3 a4 a5 a6 : Addr} {v0 v1 v2 v3 v4 v5 v6 : Value} (h : W.cell? a0 = some v0 ∧ W.cell? a1 = some v1 ∧ W.cell? a2 = some v2 ∧ W.cell? a3 = some v3 ∧ W.cell? a4 = some v4 ∧ W.cell? a5 = some v5 ∧ W.cell? a6 = some v6) : w2.cell? a0 = some v0 ∧ w2.cell? a1 = some v1 ∧ w2.cell? a2 = some v2 ∧ w2.cell? a3 = some v3 ∧ w2.cell? a4 = some v4 ∧ w2.cell? a5 = some v5 ∧ w2.cell? a6 = some v6 := ⟨pw_cell_below hb h.1, pw_cell_below hb h.2.1, pw_cell_below hb h.2.2.1, pw_cell_below hb h.2.2.2.1, pw_cell_below hb h.2.2.2.2.1, pw_cell_below hb h.2.2.2.2.2.1, pw_cell_below hb h.2.2.2.2.2.2⟩
theorem keep8 {W w2 : World} (hb : Below W.heap.size W w2) {a0 a1 a2 a3 a4 a5 a6 a7 : Addr} {v0 v1 v2 v3 v4 v5 v6 v7 : Value} (h : W.cell? a0 = some v0 ∧ W.cell? a1 = some v1 ∧ W.cell? a2 = some v2 ∧ W.cell? a3 = some v3 ∧ W.cell? a4 = some v4 ∧ W.cell? a5 = some v5 ∧ W.cell? a6 = some v6 ∧ W.cell? a7 = some v7) : w2.cell? a0 = some v0 ∧ w2.cell? a1 = some v1 ∧ w2.cell? a2 = some v2 ∧ w2.cell? a3 = some v3 ∧ w2.cell? a4 = some v4 ∧ w2.cell? a5 = some v5 ∧ w2.cell? a6 = some v6 ∧ w2.cell? a7 = some v7 := ⟨pw_cell_below hb h.1, pw_cell_below hb h.2.1, pw_cell_below hb h.2.2.1, pw_cell_below hb h.2.2.2.1, pw_cell_below hb h.2.2.2.2.1, pw_cell_below hb h.2.2.2.2.2.1, pw_cell_below hb h.2.2.2.2.2.2.1, pw_cell_below hb h.2.2.2.2.2.2.2⟩
theorem keep9 {W w2 : World} (hb : Below W.heap.size W w2) {a0 a1 a2 a3 a4 a5 a6 a7 a8 : Addr} {v0 v1 v2 v3 v4 v5 v6 v7 v8 : Value} (h : W.cell? a0 = some v0 ∧ W.cell? a1 = some v1 ∧ W.cell? a2 = some v2 ∧ W.cell? a3 = some v3 ∧ W.cell? a4 = some v4 ∧ W.cell? a5 = some v5 ∧ W.cell? a6 = some v6 ∧ W.cell? a7 = some v7 ∧ W.cell? a8 = some v8) : w2.cell? a0 = some v0 ∧ w2.cell? a1 = some v1 ∧ w2.cell? a2 = some v2 ∧ w2.cell? a3 = some v3 ∧ w2.cell? a4 = some v4 ∧ w2.cell? a5 = some v5 ∧ w2.cell? a6 = some v6 ∧ w2.cell? a7 = some v7 ∧ w2.cell? a8 = some v8 := ⟨pw_cell_below hb h.1, pw_cell_below hb h.2.1, pw_cell_below hb h.2.2.1, pw_cell_below hb h.2.2.2.1, pw_cell_below hb h.2.2.2.2.1, pw_cell_below hb h.2.2.2.2.2.1, pw_cell_below hb h.2.2.2.2.2.2.1, pw_cell_below hb h.2.2.2.2.2.2.2.1, pw_cell_below hb h.2.2.2.2.2.2.2.2⟩
theorem keep10 {W w2 : World} (hb : Below W.heap.size W w2) {a0 a1 a2 a3 a4 a5 a6 a7 a8 a9 : Addr} {v0 v1 v2 v3 v4 v5 v6 v7 v8 v9 : Value} (h : W.cell? a0 = some v0 ∧ W.cell? a1 = some v1 ∧ W.cell? a2 = some v2 ∧ W.cell? a3 = some v3 ∧ W.cell? a4 = some v4 ∧ W.cell? a5 = some v5 ∧ W.cell? a6 = some v6 ∧ W.cell? a7 = some v7 ∧ W.cell? a8 = some v8 ∧ W.cell? a9 = some v9) : w2.cell? a0 = some v0 ∧ w2.cell? a1 = some v1 ∧ w2.cell? a2 = some v2 ∧ w2.cell? a3 = some v3 ∧ w2.cell? a4 = some v4 ∧ w2.cell? a5 = some v5 ∧ w2.cell? a6 = some v6 ∧ w2.cell? a7 = some v7 ∧ w2.cell? a8 = some v8 ∧ w2.cell? a9 = some v9 := ⟨pw_cell_below hb h.1, pw_cell_below hb h.2.1, pw_cell_below hb h.2.2.1, pw_cell_below hb h.2.2.2.1, pw_cell_below hb h.2.2.2.2.1, pw_cell_below hb h.2.2.2.2.2.1, pw_cell_below hb h.2.2.2.2.2.2.1, pw_cell_below hb h.2.2.2.2.2.2.2.1, pw_cell_below hb h.2.2.2.2.2.2.2.2.1, pw_cell_below hb h.2.2.2.2.2.2.2.2.2⟩
theorem keep11 {W w2 : World} (hb : Below W.heap.size W w2) {a0 a1 a2 a3 a4 a5 a6 a7 a8 a9 a10 : Addr} {v0 v1 v2 v3 v4 v5 v6 v7 v8 v9 v10 : Value} (h : W.cell? a0 = some v0 ∧ W.cell? a1 = some v1 ∧ W.cell? a2 = some v2 ∧ W.cell? a3 = some v3 ∧ W.cell? a4 = some v4 ∧ W.cell? a5 = some v5 ∧ W.cell? a6 = some v6 ∧ W.cell? a7 = some v7 ∧ W.cell? a8 = some v8 ∧ W.cell? a9 = some v9 ∧ W.cell? a10 = some v10) : w2.cell? a0 = some v0 ∧ w2.cell? a1 = some v1 ∧ w2.cell? a2 = some v2 ∧ w2.cell? a3 = some v3 ∧ w2.cell? a4 = some v4 ∧ w2.cell? a5 = some v5 ∧ w2.cell? a6 = some v6 ∧ w2.cell? a7 = some v7 ∧ w2.cell? a8 = some v8 ∧ w2.cell? a9 = some v9 ∧ w2.cell? a10 = some v10 := ⟨pw_cell_below hb h.1, pw_cell_below hb h.2.1, pw_cell_below hb h.2.2.1, pw_cell_below hb h.2.2.2.1, pw_cell_below hb h.2.2.2.2.1, pw_cell_below hb h.2.2.2.2.2.1, pw_cell_below hb h.2.2.2.2.2.2.1, pw_cell_below hb h.2.2.2.2.2.2.2.1, pw_cell_below hb h.2.2.2.2.2.2.2.2.1, pw_cell_below hb h.2.2.2.2.2.2.2.2.2.1, pw_cell_below hb h.2.2.2.2.2.2.2.2.2.2⟩
theorem keep12 {W w2 : World} (hb : Below W.heap.size W w2) {a0 a1 a2 a3 a4 a5 a6 a7 a8 a9 a10 a11 : Addr} {v0 v1 v2 v3 v4 v5 v6 v7 v8 v9 v10 v11 : Value} (h : W.cell? a0 = some v0 ∧ W.cell? a1 = some v1 ∧ W.cell? a2 = some v2 ∧ W.cell? a3 = some v3 ∧ W.cell? a4 = some v4 ∧ W.cell? a5 = some v5 ∧ W.cell? a6 = some v6 ∧ W.cell? a7 = some v7 ∧ W.cell? a8 = some v8 ∧ W.cell? a9 = some v9 ∧ W.cell? a10 = some v10 ∧ W.cell? a11 = some v11) : w2.cell? a0 = some v0 ∧ w2.cell? a1 = some v1 ∧ w2.cell? a2 = some v2 ∧ w2.cell? a3 = some v3 ∧ w2.cell? a4 = some v4 ∧ w2.cell? a5 = some v5 ∧ w2.cell? a6 = some v6 ∧ w2.cell? a7 = some v7 ∧ w2.cell? a8 = some v8 ∧ w2.cell? a9 = some v9 ∧ w2.cell? a10 = some v10 ∧ w2.cell? a11 = some v11 := ⟨pw_cell_below hb h.1, pw_cell_below hb h.2.1, pw_cell_below hb h.2.2.1, pw_cell_below hb h.2.2.2.1, pw_cell_below hb h.2.2.2.2.1, pw_cell_below hb h.2.2.2.2.2.1, pw_cell_below hb h.2.2.2.2.2.2.1, pw_cell_below hb h.2.2.2.2.2.2.2.1, pw_cell_below hb h.2.2.2.2.2.2.2.2.1, pw_cell_below hb h.2.2.2.2.2.2.2.2.2.1, pw_cell_below hb h.2.2.2.2.2.2.2.2.2.2.1, pw_cell_below hb h.2.2.2.2.2.2.2.2.2.2.2⟩

section
variable {P : Program} {ops : Array Oper} {Q : Exit → Act → World → Prop} {md : Region.Mode} {S : World → Prop}
/-- Take first what yields under S. -/
theorem takeY {oi : Oper} (i : Nat) (D : Option Tmp) {v : Value} {fuel : Nat} {listed : Array Bool} {a : Act} {w : World} (hi : ops[i]? = some oi) (hd : oi.dst = D)
    (hs : Region.noSelect ops = true) (hf : Region.free md ops listed i = true) (hr : (Region.ready md ops listed).contains i = true)
    (hQ : ∀ c a w, Q (.panic c) (a.put oi.dst v) w → Q (.panic c) a w) (hw : Region.wanted oi (yielded ops a.tmps) = true) (hy : ∀ w, S w → (execOp a.eval oi).run P w = .ok (.value v) w) (hS : S w)
    (h : wpAnyH P md ops Q S fuel (listed.setIfInBounds i true) (a.put D v) w) : wpAnyH P md ops Q S (fuel + 1) listed a w :=
  wpAnyH_take hi hs hf hr hQ (Or.inl ⟨hw, hy⟩) hS (by rw [hd]; exact h)
/-- Pass over what isn't wanted. -/
theorem takeN {oi : Oper} (i : Nat) (D : Option Tmp) {fuel : Nat} {listed : Array Bool} {a : Act} {w : World} (hi : ops[i]? = some oi) (hd : oi.dst = D)
    (hs : Region.noSelect ops = true) (hf : Region.free md ops listed i = true) (hr : (Region.ready md ops listed).contains i = true)
    (hQ : ∀ c a w, Q (.panic c) (a.put oi.dst undef) w → Q (.panic c) a w) (hw : Region.wanted oi (yielded ops a.tmps) = false) (hS : S w)
    (h : wpAnyH P md ops Q S fuel (listed.setIfInBounds i true) (a.put D undef) w) : wpAnyH P md ops Q S (fuel + 1) listed a w :=
  wpAnyH_take hi hs hf hr hQ (Or.inr ⟨hw, rfl⟩) hS (by rw [hd]; exact h)
end
/-! ### .. and what lay at the call's beginning -/
theorem keepB0 {w0 W w2 : World} (hb : Below W.heap.size W w2) (h : Below w0.heap.size w0 W) : Below w0.heap.size w0 w2 := h.trans (below_down hb h.size)
theorem keepB1 {w0 W w2 : World} (hb : Below W.heap.size W w2) {a0 : Addr} {v0 : Value} (h : W.cell? a0 = some v0 ∧ Below w0.heap.size w0 W) : w2.cell? a0 = some v0 ∧ Below w0.heap.size w0 w2 := ⟨pw_cell_below hb h.1, h.2.trans (below_down hb h.2.size)⟩
theorem keepB2 {w0 W w2 : World} (hb : Below W.heap.size W w2) {a0 a1 : Addr} {v0 v1 : Value} (h : W.cell? a0 = some v0 ∧ W.cell? a1 = some v1 ∧ Below w0.heap.size w0 W) : w2.cell? a0 = some v0 ∧ w2.cell? a1 = some v1 ∧ Below w0.heap.size w0 w2 := ⟨pw_cell_below hb h.1, pw_cell_below hb h.2.1, h.2.2.trans (below_down hb h.2.2.size)⟩
theorem keepB3 {w0 W w2 : World} (hb : Below W.heap.size W w2) {a0 a1 a2 : Addr} {v0 v1 v2 : Value} (h : W.cell? a0 = some v0 ∧ W.cell? a1 = some v1 ∧ W.cell? a2 = some v2 ∧ Below w0.heap.size w0 W) : w2.cell? a0 = some v0 ∧ w2.cell? a1 = some v1 ∧ w2.cell? a2 = some v2 ∧ Below w0.heap.size w0 w2 := ⟨pw_cell_below hb h.1, pw_cell_below hb h.2.1, pw_cell_below hb h.2.2.1, h.2.2.2.trans (below_down hb h.2.2.2.size)⟩
theorem keepB4 {w0 W w2 : World} (hb : Below W.heap.size W w2) {a0 a1 a2 a3 : Addr} {v0 v1 v2 v3 : Value} (h : W.cell? a0 = some v0 ∧ W.cell? a1 = some v1 ∧ W.cell? a2 = some v2 ∧ W.cell? a3 = some v3 ∧ Below w0.heap.size w0 W) : w2.cell? a0 = some v0 ∧ w2.cell? a1 = some v1 ∧ w2.cell? a2 = some v2 ∧ w2.cell? a3 = some v3 ∧ Below w0.heap.size w0 w2 := ⟨pw_cell_below hb h.1, pw_cell_below hb h.2.1, pw_cell_below hb h.2.2.1, pw_cell_below hb h.2.2.2.1, h.2.2.2.2.trans (below_down hb h.2.2.2.2.size)⟩
theorem keepB5 {w0 W w2 : World} (hb : Below W.heap.size W w2) {a0 a1 a2 a3 a4 : Addr} {v0 v1 v2 v3 v4 : Value} (h : W.cell? a0 = some v0 ∧ W.cell? a1 = some v1 ∧ W.cell? a2 = some v2 ∧ W.cell? a3 = some v3 ∧ W.cell? a4 = some v4 ∧ Below w0.heap.size w0 W) : w2.cell? a0 = some v0 ∧ w2.cell? a1 = some v1 ∧ w2.cell? a2 = some v2 ∧ w2.cell? a3 = some v3 ∧ w2.cell? a4 = some v4 ∧ Below w0.heap.size w0 w2 := ⟨pw_cell_below hb h.1, pw_cell_below hb h.2.1, pw_cell_below hb h.2.2.1, pw_cell_below hb h.2.2.2.1, pw_cell_below hb h.2.2.2.2.1, h.2.2.2.2.2.trans (below_down hb h.2.2.2.2.2.size)⟩
theorem keepB6 {w0 W w2 : World} (hb : Below W.heap.size W w2) {a0 a1 a2 a3 a4 a5 : Addr} {v0 v1 v2 v3 v4 v5 : Value} (h : W.cell? a0 = some v0 ∧ W.cell? a1 = some v1 ∧ W.cell? a2 = some v2 ∧ W.cell? a3 = some v3 ∧ W.cell? a4 = some v4 ∧ W.cell? a5 = some v5 ∧ Below w0.heap.size w0 W) : w2.cell? a0 = some v0 ∧ w2.cell? a1 = some v1 ∧ w2.cell? a2 = some v2 ∧ w2.cell? a3 = some v3 ∧ w2.cell? a4 = some v4 ∧ w2.cell? a5 = some v5 ∧ Below w0.heap.size w0 w2 := ⟨pw_cell_below hb h.1, pw_cell_below hb h.2.1, pw_cell_below hb h.2.2.1, pw_cell_below hb h.2.2.2.1, pw_cell_below hb h.2.2.2.2.1, pw_cell_below hb h.2.2.2.2.2.1, h.2.2.2.2.2.2.trans (below_down hb h.2.2.2.2.2.2.size)⟩
theorem keepB7 {w0 W w2 : World} (hb : Below W.heap.size W w2) {a0 a1 a2 a3 a4 a5 a6 : Addr} {v0 v1 v2 v3 v4 v5 v6 : Value} (h : W.cell? a0 = some v0 ∧ W.cell? a1 = some v1 ∧ W.cell? a2 = some v2 ∧ W.cell? a3 = some v3 ∧ W.cell? a4 = some v4 ∧ W.cell? a5 = some v5 ∧ W.cell? a6 = some v6 ∧ Below w0.heap.size w0 W) : w2.cell? a0 = some v0 ∧ w2.cell? a1 = some v1 ∧ w2.cell? a2 = some v2 ∧ w2.cell? a3 = some v3 ∧ w2.cell? a4 = some v4 ∧ w2.cell? a5 = some v5 ∧ w2.cell? a6 = some v6 ∧ Below w0.heap.size w0 w2 := ⟨pw_cell_below hb h.1, pw_cell_below hb h.2.1, pw_cell_below hb h.2.2.1, pw_cell_below hb h.2.2.2.1, pw_cell_below hb h.2.2.2.2.1, pw_cell_below hb h.2.2.2.2.2.1, pw_cell_below hb h.2.2.2.2.2.2.1, h.2.2.2.2.2.2.2.trans (below_down hb h.2.2.2.2.2.2.2.size)⟩
theorem keepB8 {w0 W w2 : World} (hb : Below W.heap.size W w2) {a0 a1 a2 a3 a4 a5 a6 a7 : Addr} {v0 v1 v2 v3 v4 v5 v6 v7 : Value} (h : W.cell? a0 = some v0 ∧ W.cell? a1 = some v1 ∧ W.cell? a2 = some v2 ∧ W.cell? a3 = some v3 ∧ W.cell? a4 = some v4 ∧ W.cell? a5 = some v5 ∧ W.cell? a6 = some v6 ∧ W.cell? a7 = some v7 ∧ Below w0.heap.size w0 W) : w2.cell? a0 = some v0 ∧ w2.cell? a1 = some v1 ∧ w2.cell? a2 = some v2 ∧ w2.cell? a3 = some v3 ∧ w2.cell? a4 = some v4 ∧ w2.cell? a5 = some v5 ∧ w2.cell? a6 = some v6 ∧ w2.cell? a7 = some v7 ∧ Below w0.heap.size w0 w2 := ⟨pw_cell_below hb h.1, pw_cell_below hb h.2.1, pw_cell_below hb h.2.2.1, pw_cell_below hb h.2.2.2.1, pw_cell_below hb h.2.2.2.2.1, pw_cell_below hb h.2.2.2.2.2.1, pw_cell_below hb h.2.2.2.2.2.2.1, pw_cell_below hb h.2.2.2.2.2.2.2.1, h.2.2.2.2.2.2.2.2.trans (below_down hb h.2.2.2.2.2.2.2.2.size)⟩
theorem keepB9 {w0 W w2 : World} (hb : Below W.heap.size W w2) {a0 a1 a2 a3 a4 a5 a6 a7 a8 : Addr} {v0 v1 v2 v3 v4 v5 v6 v7 v8 : Value} (h : W.cell? a0 = some v0 ∧ W.cell? a1 = some v1 ∧ W.cell? a2 = some v2 ∧ W.cell? a3 = some v3 ∧ W.cell? a4 = some v4 ∧ W.cell? a5 = some v5 ∧ W.cell? a6 = some v6 ∧ W.cell? a7 = some v7 ∧ W.cell? a8 = some v8 ∧ Below w0.heap.size w0 W) : w2.cell? a0 = some v0 ∧ w2.cell? a1 = some v1 ∧ w2.cell? a2 = some v2 ∧ w2.cell? a3 = some v3 ∧ w2.cell? a4 = some v4 ∧ w2.cell? a5 = some v5 ∧ w2.cell? a6 = some v6 ∧ w2.cell? a7 = some v7 ∧ w2.cell? a8 = some v8 ∧ Below w0.heap.size w0 w2 := ⟨pw_cell_below hb h.1, pw_cell_below hb h.2.1, pw_cell_below hb h.2.2.1, pw_cell_below hb h.2.2.2.1, pw_cell_below hb h.2.2.2.2.1, pw_cell_below hb h.2.2.2.2.2.1, pw_cell_below hb h.2.2.2.2.2.2.1, pw_cell_below hb h.2.2.2.2.2.2.2.1, pw_cell_below hb h.2.2.2.2.2.2.2.2.1, h.2.2.2.2.2.2.2.2.2.trans (below_down hb h.2.2.2.2.2.2.2.2.2.size)⟩
theorem keepB10 {w0 W w2 : World} (hb : Below W.heap.size W w2) {a0 a1 a2 a3 a4 a5 a6 a7 a8 a9 : Addr} {v0 v1 v2 v3 v4 v5 v6 v7 v8 v9 : Value} (h : W.cell? a0 = some v0 ∧ W.cell? a1 = some v1 ∧ W.cell? a2 = some v2 ∧ W.cell? a3 = some v3 ∧ W.cell? a4 = some v4 ∧ W.cell? a5 = some v5 ∧ W.cell? a6 = some v6 ∧ W.cell? a7 = some v7 ∧ W.cell? a8 = some v8 ∧ W.cell? a9 = some v9 ∧ Below w0.heap.size w0 W) : w2.cell? a0 = some v0 ∧ w2.cell? a1 = some v1 ∧ w2.cell? a2 = some v2 ∧ w2.cell? a3 = some v3 ∧ w2.cell? a4 = some v4 ∧ w2.cell? a5 = some v5 ∧ w2.cell? a6 = some v6 ∧ w2.cell? a7 = some v7 ∧ w2.cell? a8 = some v8 ∧ w2.cell? a9 = some v9 ∧ Below w0.heap.size w0 w2 := ⟨pw_cell_below hb h.1, pw_cell_below hb h.2.1, pw_cell_below hb h.2.2.1, pw_cell_below hb h.2.2.2.1, pw_cell_below hb h.2.2.2.2.1, pw_cell_below hb h.2.2.2.2.2.1, pw_cell_below hb h.2.2.2.2.2.2.1, pw_cell_below hb h.2.2.2.2.2.2.2.1, pw_cell_below hb h.2.2.2.2.2.2.2.2.1, pw_cell_below hb h.2.2.2.2.2.2.2.2.2.1, h.2.2.2.2.2.2.2.2.2.2.trans (below_down hb h.2.2.2.2.2.2.2.2.2.2.size)⟩
theorem keepB11 {w0 W w2 : World} (hb : Below W.heap.size W w2) {a0 a1 a2 a3 a4 a5 a6 a7 a8 a9 a10 : Addr} {v0 v1 v2 v3 v4 v5 v6 v7 v8 v9 v10 : Value} (h : W.cell? a0 = some v0 ∧ W.cell? a1 = some v1 ∧ W.cell? a2 = some v2 ∧ W.cell? a3 = some v3 ∧ W.cell? a4 = some v4 ∧ W.cell? a5 = some v5 ∧ W.cell? a6 = some v6 ∧ W.cell? a7 = some v7 ∧ W.cell? a8 = some v8 ∧ W.cell? a9 = some v9 ∧ W.cell? a10 = some v10 ∧ Below w0.heap.size w0 W) : w2.cell? a0 = some v0 ∧ w2.cell? a1 = some v1 ∧ w2.cell? a2 = some v2 ∧ w2.cell? a3 = some v3 ∧ w2.cell? a4 = some v4 ∧ w2.cell? a5 = some v5 ∧ w2.cell? a6 = some v6 ∧ w2.cell? a7 = some v7 ∧ w2.cell? a8 = some v8 ∧ w2.cell? a9 = some v9 ∧ w2.cell? a10 = some v10 ∧ Below w0.heap.size w0 w2 := ⟨pw_cell_below hb h.1, pw_cell_below hb h.2.1, pw_cell_below hb h.2.2.1, pw_cell_below hb h.2.2.2.1, pw_cell_below hb h.2.2.2.2.1, pw_cell_below hb h.2.2.2.2.2.1, pw_cell_below hb h.2.2.2.2.2.2.1, pw_cell_below hb h.2.2.2.2.2.2.2.1, pw_cell_below hb h.2.2.2.2.2.2.2.2.1, pw_cell_below hb h.2.2.2.2.2.2.2.2.2.1, pw_cell_below hb h.2.2.2.2.2.2.2.2.2.2.1, h.2.2.2.2.2.2.2.2.2.2.2.trans (below_down hb h.2.2.2.2.2.2.2.2.2.2.2.size)⟩
theorem keepB12 {w0 W w2 : World} (hb : Below W.heap.size W w2) {a0 a1 a2 a3 a4 a5 a6 a7 a8 a9 a10 a11 : Addr} {v0 v1 v2 v3 v4 v5 v6 v7 v8 v9 v10 v11 : Value} (h : W.cell? a0 = some v0 ∧ W.cell? a1 = some v1 ∧ W.cell? a2 = some v2 ∧ W.cell? a3 = some v3 ∧ W.cell? a4 = some v4 ∧ W.cell? a5 = some v5 ∧ W.cell? a6 = some v6 ∧ W.cell? a7 = some v7 ∧ W.cell? a8 = some v8 ∧ W.cell? a9 = some v9 ∧ W.cell? a10 = some v10 ∧ W.cell? a11 = some v11 ∧ Below w0.heap.size w0 W) : w2.cell? a0 = some v0 ∧ w2.cell? a1 = some v1 ∧ w2.cell? a2 = some v2 ∧ w2.cell? a3 = some v3 ∧ w2.cell? a4 = some v4 ∧ w2.cell? a5 = some v5 ∧ w2.cell? a6 = some v6 ∧ w2.cell? a7 = some v7 ∧ w2.cell? a8 = some v8 ∧ w2.cell? a9 = some v9 ∧ w2.cell? a10 = some v10 ∧ w2.cell? a11 = some v11 ∧ Below w0.heap.size w0 w2 := ⟨pw_cell_below hb h.1, pw_cell_below hb h.2.1, pw_cell_below hb h.2.2.1, pw_cell_below hb h.2.2.2.1, pw_cell_below hb h.2.2.2.2.1, pw_cell_below hb h.2.2.2.2.2.1, pw_cell_below hb h.2.2.2.2.2.2.1, pw_cell_below hb h.2.2.2.2.2.2.2.1, pw_cell_below hb h.2.2.2.2.2.2.2.2.1, pw_cell_below hb h.2.2.2.2.2.2.2.2.2.1, pw_cell_below hb h.2.2.2.2.2.2.2.2.2.2.1, pw_cell_below hb h.2.2.2.2.2.2.2.2.2.2.2.1, h.2.2.2.2.2.2.2.2.2.2.2.2.trans (below_down hb h.2.2.2.2.2.2.2.2.2.2.2.2.size)⟩
theorem below_al (W : World) (o : Obj) : Below W.heap.size W (W.alloc o) := (Below.refl _ _).alloc (Nat.le_refl _) _
end Go.Proofs.Ytonbnlfijmapfaa
/- Appends onto a row of the call's own, at the operation itself: one element, a row, a text. No condition but on sizes. -/
namespace Go.Proofs.Ytonbnlfijmapfaa
open Go.RowKit Go.Shelf Go.Proofs.YtonbnlfijmapfaaW.PrintWords
set_option linter.unusedVariables false
set_option linter.unusedSimpArgs false

section
variable {P : Program} {α : Type} {enc : α → Value} {h1 : ∀ x : α, (enc x).oneCell' = true}
/-- The run of 'append(v, ys...)', ys a row of scalars that is read. -/
theorem run_app_row {t ty e : TypeId} {z : Value} {bytes base : Nat} {W : World} {ok : Nat → Prop} {v : Value} {xs ys : List α} (HO : (Kd.scalar enc h1).R e W base ok v xs) {A : Option Addr} {m c : Nat} (HR : (Kd.scalar enc h1).C W A m ys)
    (ht : P.underlying t = some (.slice e)) (hinfo : (P.info? e).map (fun i => (i.zero, i.size, i.bytes)) = some (some z, 1, bytes)) (hz : z.cells.size = 1) (hb0 : 0 < bytes)
    (hfresh : ∀ k, W.heap.size ≤ k → ok k) (hbase : base ≤ W.heap.size) (hl : (xs.length + m) * bytes ≤ 140737488355328) :
    ∃ v1 w1, (Builtin.append_ #[t, t] ty #[v, .slice A m c]).run P W = .ok v1 w1 ∧ (Kd.scalar enc h1).R e w1 base ok v1 (xs ++ ys) ∧ Below base W w1 ∧ W.grownBy w1 v.ownBlock ∧ (v1.ownBlock = v.ownBlock ∨ ∃ b, v1.ownBlock = some b ∧ W.heap.size ≤ b) := by
  obtain ⟨i0, hi, hzz⟩ := Option.map_eq_some_iff.1 hinfo
  simp only [Prod.mk.injEq] at hzz
  obtain ⟨hz0, hz1, hz2⟩ := hzz
  have hm : ys.length = m := HR.1
  have hlen : xs.length + m ≤ 140737488355328 := Nat.le_trans (Nat.le_mul_of_pos_right _ hb0) hl
  have HW := Kd.own_of_R HO
  have fin : ∀ v1 w1, (Builtin.append_ #[t, t] ty #[v, .slice A m c]).run P W = .ok v1 w1 → w1.ownsRow base e 1 v1 (xs ++ ys).length (encs enc (xs ++ ys)) → W.grownBy w1 v.ownBlock → (v1.ownBlock = v.ownBlock ∨ v1.ownBlock = some W.heap.size) →
      ∃ v1 w1, (Builtin.append_ #[t, t] ty #[v, .slice A m c]).run P W = .ok v1 w1 ∧ (Kd.scalar enc h1).R e w1 base ok v1 (xs ++ ys) ∧ Below base W w1 ∧ W.grownBy w1 v.ownBlock ∧ (v1.ownBlock = v.ownBlock ∨ ∃ b, v1.ownBlock = some b ∧ W.heap.size ≤ b) := by
    intro v1 w1 hr hown hg hat
    refine ⟨v1, w1, hr, Kd.R_of_own hown (fun k hk => ?_), (Below.refl base W).grown hg hbase (own_base HW), hg, hat.imp id (fun h => ⟨_, h, Nat.le_refl _⟩)⟩
    rcases hat with e1 | e1
    · exact HO.1 k (by rw [← e1]; exact hk)
    · rw [e1] at hk; injection hk with hk; subst hk; exact hfresh _ (Nat.le_refl _)
  rcases A with _ | ad
  · have h0 : m = 0 := by
      rcases Nat.eq_zero_or_pos m with h0 | h0
      · exact h0
      · obtain ⟨ad, h, _⟩ := HR.2.2 h0; cases h
    subst h0
    obtain rfl : ys = [] := List.eq_nil_of_length_eq_zero hm
    refine fin v W ?_ (by simpa using HW) (World.grownBy.refl W _) (.inl rfl)
    rcases HW.2 with ⟨rfl, hn⟩ | ⟨g, cap, cur, rfl, _, _, hnc, _⟩
    · simp [Builtin.append_, run_underlying ht, sizeOf, typeInfo, hi, Builtin.lenOf, Builtin.firstCells]
    · simp [Builtin.append_, run_underlying ht, sizeOf, typeInfo, hi, Builtin.lenOf, Builtin.firstCells, hnc, storeCells]
  · have hcells : ∀ j u, (encs enc ys)[j]? = some u → W.cell? (ad.add j) = some u := by
      intro j u hu
      have hj : j < ys.length := by
        rcases Nat.lt_or_ge j ys.length with h | h
        · exact h
        · rw [List.getElem?_eq_none (by rw [encs_length]; omega)] at hu; cases hu
      obtain ⟨ad', e1, hc⟩ := (Kd.reads_of_C (d := ys[j]) HR).2.2 (by omega)
      injection e1 with e1
      subst e1
      rw [hc j (by omega)]
      rw [← hu, encs_get (d := ys[j]) ys j hj]
    obtain ⟨v1, w1, hr, hown, hg, _, hat⟩ := run_append_own_at (P := P) W base t ty e i0 z 1 bytes ht hi hz0 hz1 hz2 hz (by omega) v xs.length (encs enc xs) HW ad m c (encs enc ys) (by rw [encs_length]; omega) hcells (by
      intro u hu; simp only [encs, List.mem_map] at hu; obtain ⟨y, _, rfl⟩ := hu; exact h1 y) (by simp only [maxLen]; omega) hl hbase
    exact fin v1 w1 hr (by rw [encs_append, List.length_append, hm]; exact hown) hg hat

theorem run_app_str {t u ty e : TypeId} {base : Nat} {W : World} {v : Value} {xs : List Int} (HO : (Kd.int .u8).R e W base (fun _ => True) v xs) (y : ByteArray)
    (ht : P.underlying t = some (.slice e)) (hu : P.underlying u = some .string) (hinfo : (P.info? e).map (fun i => (i.zero, i.size, i.bytes)) = some (some (.int .u8 0), 1, 1)) (hbase : base ≤ W.heap.size) (hl : xs.length + y.size ≤ 140737488355328) :
    ∃ v1 w1, (Builtin.append_ #[t, u] ty #[v, .string y]).run P W = .ok v1 w1 ∧ (Kd.int .u8).R e w1 base (fun _ => True) v1 (xs ++ bytesOf y) ∧ Below base W w1 ∧ W.grownBy w1 v.ownBlock := by
  obtain ⟨i0, hi, hzz⟩ := Option.map_eq_some_iff.1 hinfo
  simp only [Prod.mk.injEq] at hzz
  obtain ⟨hz0, hz1, hz2⟩ := hzz
  have HW := Kd.own_of_R HO
  obtain ⟨v1, w1, hr, hown, hg, _⟩ := Lib.run_append_own_string (P := P) W base t u ty e i0 ht hu hi hz0 hz1 hz2 v xs.length _ HW y (by simp only [maxLen]; omega) hl hbase
  refine ⟨v1, w1, hr, Kd.R_of_own (by
    have hl2 : (xs ++ bytesOf y).length = xs.length + y.size := by rw [List.length_append, bytesOf_length]
    rw [hl2, encs_append]
    have : encs (Value.int .u8) (bytesOf y) = Lib.strCells y := by simp [encs, bytesOf, Lib.strCells]
    rw [this]; exact hown) (fun _ _ => trivial), (Below.refl base W).grown hg hbase (own_base HW), hg⟩

/-- The run of 'append(v, x)', x in its box. -/
theorem run_app_one {d : Kd α} {base e : Nat} {W : World} {ok : Nat → Prop} {v : Value} {xs : List α} (HO : d.R e W base ok v xs) {z : Value} {bytes : Nat}
    (hinfo : (P.info? e).map (fun i => (i.zero, i.size, i.bytes)) = some (some z, d.sz, bytes)) {t ty : TypeId} (ht : P.underlying t = some (.slice e)) {p : α} {cs : List Value}
    (hp : d.M W base (fun k => ok k ∧ some k ≠ v.ownBlock) p cs) (hfresh : ∀ k, W.heap.size ≤ k → ok k) (hbase : base ≤ W.heap.size) (hl : (xs.length + 1) * bytes ≤ 140737488355328)
    (hz : z.cells.size = d.sz) (hs0 : 0 < d.sz) (hb0 : 0 < bytes) :
    ∃ v1 w1, (Builtin.append_ #[t, t] ty #[v, .slice (some ⟨W.heap.size, 0, none⟩) 1 1]).run P (W.alloc (.cells cs.toArray e)) = .ok v1 w1 ∧ d.R e w1 base ok v1 (xs ++ [p]) ∧ Below base W w1 ∧ W.grownBy w1 v.ownBlock ∧ (v1.ownBlock = v.ownBlock ∨ ∃ b, v1.ownBlock = some b ∧ W.heap.size ≤ b) := by
  obtain ⟨i0, hi, hzz⟩ := Option.map_eq_some_iff.1 hinfo
  simp only [Prod.mk.injEq] at hzz
  obtain ⟨hz0, hz1, hz2⟩ := hzz
  have hlen : xs.length + 1 ≤ 140737488355328 := Nat.le_trans (Nat.le_mul_of_pos_right _ hb0) hl
  obtain ⟨h0, inner, hown, hr⟩ := HO
  have hys : cs.length = d.sz := d.K_len (d.K_of_M hp)
  obtain ⟨v1, w1, hr1, hown1, hg, _, hat⟩ := run_append_own_at (P := P) (W.alloc (.cells cs.toArray e)) base t ty e i0 z d.sz bytes ht hi hz0 hz1 hz2 hz hs0 v xs.length inner (hown.alloc _) ⟨W.heap.size, 0, none⟩ 1 1 cs (by rw [hys]; simp)
    (by simpa using World.news_of_block (cs := cs.toArray) (t := e) (fr := (0, 0)) (heap_alloc_new W (.cells cs.toArray e))) (d.K_one (d.K_of_M hp)) (by simp only [maxLen]; omega) hl (by simp; omega)
  have hat' : v1.ownBlock = v.ownBlock ∨ ∃ b, v1.ownBlock = some b ∧ W.heap.size ≤ b := by
    rcases hat with hat | hat
    · exact .inl hat
    · exact .inr ⟨_, hat, by simp⟩
  have hg' := World.grownBy.trans (World.grownBy_alloc W _ _) hg
  exact ⟨v1, w1, hr1, Kd.R_appended h0 hr hp (fun _ hk => hk) hfresh hown1 hg' hat', ((Below.refl base W).alloc hbase _).grown hg (by simp; omega) (own_base hown), hg', hat'⟩
end

section
variable {P : Program} {ops : Array Oper} {rest : List Oper} {o : Oper} {a : Act} {Q : Exit → Act → World → Prop} {K : Act → World → Prop}
/-- An append whose run is known, at the operation. -/
theorem wp_app {s x : Operand} {t u : TypeId} {v y : Value} {W w1 : World} {v1 : Value} (ho : o.op = .call { callee := .builtin .append, args := #[s, x], argTypes := #[t, u] }) (hs : a.eval s = v) (hx : a.eval x = y)
    (hr : (Builtin.append_ #[t, u] o.type #[v, y]).run P W = .ok v1 w1) (h : K (a.put o.dst v1) w1) : o.wp P a W K Q := by
  unfold Oper.wp execOp
  simp only [ho, resolve, invoke, builtin, Sem.run_bind, Sem.run_pure, Result.andThen_ok, List.map_toArray, List.map_cons, List.map_nil, hs, hx, hr]
  exact h
theorem list_app {s x : Operand} {t u : TypeId} {v y : Value} {W w1 : World} {v1 : Value} (hgd : o.guard = none) (ho : o.op = .call { callee := .builtin .append, args := #[s, x], argTypes := #[t, u] }) (hs : a.eval s = v) (hx : a.eval x = y)
    (hr : (Builtin.append_ #[t, u] o.type #[v, y]).run P W = .ok v1 w1) (h : wpList P ops Q rest (a.put o.dst v1) w1) : wpList P ops Q (o :: rest) a W :=
  wpList_plain hgd fun _ hK => wp_app ho hs hx hr (hK _ _ h)
theorem step_app {s x : Operand} {t u : TypeId} {v y : Value} {W w1 : World} {v1 : Value} (hw : Region.wanted o (yielded ops a.tmps) = true) (ho : o.op = .call { callee := .builtin .append, args := #[s, x], argTypes := #[t, u] }) (hs : a.eval s = v) (hx : a.eval x = y)
    (hr : (Builtin.append_ #[t, u] o.type #[v, y]).run P W = .ok v1 w1) (h : K (a.put o.dst v1) w1) :
    if Region.wanted o (yielded ops a.tmps) = true then Oper.wp P o a W K Q else K (a.put o.dst undef) W := by
  rw [if_pos hw]; exact wp_app ho hs hx hr h
end
theorem R_box1 {W : World} {base : Nat} {T : Nat} (x : Int) (k : IntKind) (hb : base ≤ W.heap.size) : (Kd.int k).R T (W.alloc (.cells #[.int k x] T)) base (fun _ => True) (.slice (some ⟨W.heap.size, 0, none⟩) 1 1) [x] :=
  Kd.R_of_own (own_lit_of (enc := Value.int k) W base T [x] hb (by simp)) (fun _ _ => trivial)
theorem R_boxes {W : World} {base : Nat} {T : Nat} (xs : List Int) (k : IntKind) (hb : base ≤ W.heap.size) (hm : xs.length ≤ 9223372036854775807) : (Kd.int k).R T (W.alloc (.cells (encs (Value.int k) xs).toArray T)) base (fun _ => True) (.slice (some ⟨W.heap.size, 0, none⟩) xs.length xs.length) xs :=
  Kd.R_of_own (own_lit_of (enc := Value.int k) W base T xs hb hm) (fun _ _ => trivial)
theorem C_boxes {W : World} {T : Nat} (xs : List Int) (k : IntKind) (hm : xs.length ≤ 9223372036854775807) : (Kd.int k).C (W.alloc (.cells (encs (Value.int k) xs).toArray T)) (some ⟨W.heap.size, 0, none⟩) xs.length xs :=
  (Kd.R_reads' (R_boxes (base := W.heap.size) (T := T) xs k (Nat.le_refl _) hm)).2.2
end Go.Proofs.Ytonbnlfijmapfaa
/- Letters, names: what letter.letter, letter.wrong, letter.Right and the reference's Runes, letter, Right answer. No condition but on sizes. -/
namespace Go.Proofs.Ytonbnlfijmapfaa
open Go.RowKit Go.Shelf Go.Proofs.YtonbnlfijmapfaaW.PrintWords
set_option linter.unusedVariables false
set_option linter.unusedSimpArgs false

def isLetter (r : Int) : Bool := (decide (97 ≤ r) && decide (r ≤ 122)) || (decide (65 ≤ r) && decide (r ≤ 90)) || (r == 95) || (decide (192 ≤ r) && decide (r ≤ 591) && r != 215 && r != 247)
def isDigit (r : Int) : Bool := decide (48 ≤ r) && decide (r ≤ 57)

set_option maxHeartbeats 1000000 in
theorem letter_letter_calls (r : Int) (w : World) :
    Calls Try.prog 131 #[.int .i32 r] w fun e w' => e = .returned (.bool (isLetter r)) ∧ w = w' := by
  go_enter Try.func131, Try.ntmps131
  go_wp2
  all_goals (go_ret; refine ⟨ret_bool ?_, rfl⟩; go_tidy; (try simp only [beq_iff_eq, beq_eq_false_iff_ne, ne_eq] at *); rw [Bool.eq_iff_iff]; first | (simp [isLetter]; done) | (simp [isLetter]; omega))

set_option maxHeartbeats 1000000 in
theorem ref01_letter_calls (r : Int) (w : World) :
    Calls Try.prog 103 #[.int .i32 r] w fun e w' => e = .returned (.bool (isLetter r)) ∧ w = w' := by
  go_enter Try.func103, Try.ntmps103
  go_wp2
  all_goals (go_ret; refine ⟨ret_bool ?_, rfl⟩; go_tidy; (try simp only [beq_iff_eq, beq_eq_false_iff_ne, ne_eq] at *); rw [Bool.eq_iff_iff]; first | (simp [isLetter]; done) | (simp [isLetter]; omega))

/-! ### runes -/
/-- The runes from a place on. -/
def runesFrom (s : ByteArray) : Nat → Nat → List Int
  | 0, _ => []
  | f + 1, pos => if pos < s.size then ((Utf8.decode s pos).1 : Int) :: runesFrom s f (pos + (Utf8.decode s pos).2) else []
def runes (s : ByteArray) : List Int := runesFrom s s.size 0
theorem runesFrom_end (s : ByteArray) (f pos : Nat) (h : ¬ pos < s.size) : runesFrom s f pos = [] := by
  cases f with
  | zero => rfl
  | succ f => simp [runesFrom, h]
theorem runesFrom_length (s : ByteArray) : ∀ f pos, (runesFrom s f pos).length ≤ f
  | 0, _ => by simp [runesFrom]
  | f + 1, pos => by
    have := runesFrom_length s f (pos + (Utf8.decode s pos).2)
    unfold runesFrom; split <;> simp; omega
theorem runes_length (s : ByteArray) : (runes s).length ≤ s.size := runesFrom_length _ _ _

/-- Not a name, counted from n on. -/
def wrongFrom : List Int → Nat → Bool
  | [], n => n == 0 || decide (32 < n)
  | r :: t, n => (!isLetter r && (n == 0 || !isDigit r)) || wrongFrom t (n + 1)
def nameRight (s : ByteArray) : Bool := !wrongFrom (runes s) 0

theorem wrong_step {r : Int} {t : List Int} {n : Nat} {W : Bool} (h : wrongFrom (r :: t) n = W) :
    (isLetter r = true → wrongFrom t (n + 1) = W) ∧ (¬ isLetter r = true → n ≠ 0 → 48 ≤ r → r ≤ 57 → wrongFrom t (n + 1) = W) ∧ (¬ isLetter r = true → (n = 0 ∨ r < 48 ∨ 57 < r) → true = W) := by
  subst h
  refine ⟨fun h => by simp [wrongFrom, h], fun h h0 h1 h2 => by simp [wrongFrom, h0, isDigit, h1, h2], fun h h1 => ?_⟩
  have : (n == 0 || !isDigit r) = true := by
    unfold isDigit
    rcases h1 with h1 | h1 | h1
    · simp [h1]
    · have : ¬ 48 ≤ r := by omega
      simp [this]
    · have : ¬ r ≤ 57 := by omega
      simp [this]
  simp [wrongFrom, h, this]

set_option maxHeartbeats 1000000 in
set_option maxRecDepth 100000 in
theorem letter_wrong_calls (s : ByteArray) (w : World) (hs : s.size ≤ 140737488355328) :
    Calls Try.prog 115 #[.string s] w fun e w' => e = .returned (.bool (wrongFrom (runes s) 0)) ∧ ∃ pos, w' = w.iter s pos := by
  go_enter Try.func115, Try.ntmps115
  go_wp2
  go_loopw [3] (fun n w' => ∃ (pos b : Nat) (acc : Nat), w' = w.iter s pos ∧ n = .int .i64 acc ∧ Aside0 (wrongFrom (runesFrom s b pos) acc = wrongFrom (runes s) 0) ∧ s.size ≤ pos + b ∧ acc ≤ pos) (fun _ w' => s.size - w'.iterPos w.heap.size)
  case atStart => exact ⟨0, s.size, 0, rfl, rfl, ⟨rfl⟩, by omega, Nat.le_refl _⟩
  case round =>
    obtain ⟨pos, b, acc, rfl, rfl, hc, hb, ha⟩ := hrel
    by_cases hp : pos < s.size
    · have hnx : ∀ ty, (Instr.next (.pointer (some ⟨w.heap.size, 0, none⟩)) true ty).run Try.prog (w.iter s pos) = _ := fun ty => run_next_any w s pos ty hp
      have hwd := Lib.decode_width_pos s pos hp
      obtain ⟨b, rfl⟩ : ∃ b', b = b' + 1 := ⟨b - 1, by omega⟩
      have HS := Lib.hid (wrong_step (show wrongFrom (((Utf8.decode s pos).1 : Int) :: runesFrom s b (pos + (Utf8.decode s pos).2)) acc = wrongFrom (runes s) 0 from by have := hc.out; rw [runesFrom, if_pos hp] at this; exact this))
      clear hc
      go_wp2_with (go_at_call 131; refine (letter_letter_calls _ _).mono ?_; rintro e w' ⟨rfl, rfl⟩)
      all_goals first
        | (go_roundw
           case rel =>
             refine ⟨_, b, acc + 1, rfl, by go_num, ⟨?_⟩, by omega, by omega⟩
             first | exact HS.out.1 (by assumption) | exact HS.out.2.1 (by assumption) (by omega) (by omega) (by omega)
           case measure => simp; omega)
        | (go_ret
           refine ⟨ret_bool (HS.out.2.2 (by assumption) (by go_tidy; (try simp only [beq_iff_eq] at *); omega)), _, rfl⟩)
    · have hnx : ∀ ty, (Instr.next (.pointer (some ⟨w.heap.size, 0, none⟩)) true ty).run Try.prog (w.iter s pos) = _ := fun ty => run_next_end w s pos ty hp
      have HS := Lib.hid (show (acc == 0 || decide (32 < acc)) = wrongFrom (runes s) 0 from by have := hc.out; rw [runesFrom_end s b pos hp] at this; exact this)
      clear hc
      go_wp2
      all_goals
        go_ret
        refine ⟨ret_bool ?_, _, rfl⟩
        rw [← HS.out, Bool.eq_iff_iff]
        simp
        omega

theorem IdxFunc_enters_wrong : ∀ args w, (callFunc 115 args).run Try.prog w = .ok (.enter 115 args) w := enters_of Try.func115 (by kernel_rfl) rfl

end Go.Proofs.Ytonbnlfijmapfaa
/- The reference's Runes, Right, Compare. No condition but on sizes. -/
namespace Go.Proofs.Ytonbnlfijmapfaa
open Go.RowKit Go.Shelf Go.Proofs.YtonbnlfijmapfaaW.PrintWords
set_option linter.unusedVariables false
set_option linter.unusedSimpArgs false

set_option maxHeartbeats 1000000 in
set_option maxRecDepth 100000 in
theorem ref01_Runes_calls (s : ByteArray) (w : World) (hs : s.size ≤ 100000) :
    Calls Try.prog 102 #[.string s] w fun e w' => (∃ v, e = .returned v ∧ (Kd.int .i32).R 21 w' w.heap.size (fun _ => True) v (runes s)) ∧ Below w.heap.size w w' := by
  go_enter Try.func102, Try.ntmps102
  go_wp2
  go_loopw [3] (fun v wr => ∃ (pos b : Nat) (acc : List Int), wr.heap[w.heap.size]? = some (.stringIter s pos) ∧ (Kd.int .i32).R 21 wr (w.heap.size + 1) (fun _ => True) v acc ∧ Below w.heap.size w wr ∧ Aside0 (acc ++ runesFrom s b pos = runes s) ∧ s.size ≤ pos + b ∧ acc.length ≤ pos ∧ w.heap.size + 1 ≤ wr.heap.size) (fun _ wr => s.size - wr.iterPos w.heap.size)
  case atStart => exact ⟨0, s.size, [], World.iter_heap w s 0, Kd.R_nil _ _ _ _ _, (Below.refl _ _).alloc (Nat.le_refl _) _, ⟨rfl⟩, by omega, Nat.le_refl _, by simp [World.iter]⟩
  case round =>
    obtain ⟨pos, b, acc, hk, hR, hB, hc, hb, ha, hsz⟩ := hrel
    by_cases hp : pos < s.size
    · have hnx : ∀ ty, (Instr.next (.pointer (some ⟨w.heap.size, 0, none⟩)) true ty).run Try.prog wr = _ := fun ty => Lib.run_next_any_at wr w.heap.size s pos ty hk hp
      have hwd := Lib.decode_width_pos s pos hp
      obtain ⟨b, rfl⟩ : ∃ b', b = b' + 1 := ⟨b - 1, by omega⟩
      have HC := Lib.hid hc; clear hc
      have HK := Lib.hid hk; clear hk
      have HR := Lib.hid (R_iterAt hR (Nat.lt_succ_self _) s (pos + (Utf8.decode s pos).2)); clear hR
      have HB := Lib.hid (Lib.below_iterAt hB (Nat.le_refl _) s (pos + (Utf8.decode s pos).2)); clear hB
      have HZ := Lib.hid (Lib.iterAt_heap wr w.heap.size s pos (pos + (Utf8.decode s pos).2) HK.out)
      have hS : w.heap.size + 1 ≤ (wr.iterAt w.heap.size s (pos + (Utf8.decode s pos).2)).heap.size := by rw [Lib.iterAt_size]; exact hsz
      go_wp2_with (at_builtin; refine app_one HR.out info_i32 Try.underlying159 (M_int _) (fun _ _ => trivial) hS ?aL rfl (by decide) (by decide) rfl rfl rfl rfl ?_; (case aL => omega); intro v1 w1 hR1 hb1 hg1 hat1)
      go_roundw
      case rel =>
        refine ⟨pos + (Utf8.decode s pos).2, b, acc ++ [((Utf8.decode s pos).1 : Int)], (hb1.block _ (Nat.lt_succ_self _)).trans HZ.out, hR1, HB.out.trans (below_down hb1 (Nat.le_succ _)), ⟨?_⟩, by omega, by rw [List.length_append, List.length_singleton]; omega, Nat.le_trans hS hb1.size⟩
        have := HC.out.out
        rw [runesFrom, if_pos hp] at this
        rw [← this]; simp
      case measure => rw [iterPos_of ((hb1.block _ (Nat.lt_succ_self _)).trans HZ.out), iterPos_of HK.out]; omega
    · have hnx : ∀ ty, (Instr.next (.pointer (some ⟨w.heap.size, 0, none⟩)) true ty).run Try.prog wr = _ := fun ty => Lib.run_next_end_at wr w.heap.size s pos ty hk hp
      have HC := Lib.hid hc; clear hc
      have HR := Lib.hid hR; clear hR
      clear hk
      go_wp2
      go_ret
      have := HC.out.out
      rw [runesFrom_end s b pos hp, List.append_nil] at this
      subst this
      exact ⟨⟨_, rfl, Kd.R_lower HR.out (Nat.le_succ _)⟩, hB⟩
end Go.Proofs.Ytonbnlfijmapfaa
/- slices.IndexFunc, ContainsFunc at strings, ints and values; letter.Right; value.thing, Right. No condition but on sizes. -/
namespace Go.Proofs.Ytonbnlfijmapfaa
open Go.RowKit Go.Shelf Go.Proofs.YtonbnlfijmapfaaW.PrintWords
set_option linter.unusedVariables false
set_option linter.unusedSimpArgs false

def idxP {α : Type} (p : α → Bool) : List α → Nat → Int
  | [], _ => -1
  | x :: t, k => if p x = true then (k : Int) else idxP p t (k + 1)
theorem idxP_any {α : Type} (p : α → Bool) : ∀ (xs : List α) (k : Nat), decide (0 ≤ idxP p xs k) = xs.any p
  | [], _ => by simp [idxP]
  | x :: t, k => by
    have := idxP_any p t (k + 1)
    by_cases h : p x = true
    · simp [idxP, h]
    · simp [idxP, h, this]

/-- What is asked of a predicate on what a list has. -/
def PredOn {α : Type} (P : Program) (g : Nat) (lb : Array Value) (enc : α → Value) (p : α → Bool) (w : World) (xs : List α) : Prop :=
  ∀ (W : World) (x : α), x ∈ xs → Below w.heap.size w W → Calls P g (#[enc x] ++ lb) W fun e w' => e = .returned (.bool (p x)) ∧ Below W.heap.size W w'


set_option maxHeartbeats 1000000 in
theorem IndexFunc_string_calls (g : Nat) (lb : Array Value) (eg : ∀ args w, (callFunc g args).run Try.prog w = .ok (.enter g args) w) (p : ByteArray → Bool) (A : Option Addr) (c : Nat) (xs : List ByteArray) (w : World)
    (h : (Kd.string).C w A xs.length xs) (hp : PredOn Try.prog g lb (.string) p w xs) :
    Calls Try.prog 130 #[.slice A xs.length c, .func (.func g) #[] lb] w fun e w' => e = .returned (.int .i64 (idxP p xs 0)) ∧ Below w.heap.size w w' := by
  have hm := Kd.C_max h
  have HP := Lib.hid hp; clear hp
  have HX := Lib.hid h; clear h
  go_enter Try.func130, Try.ntmps130
  go_wp2
  go_loopw [5, 8] (fun _ s8 wr => ∃ k : Nat, k ≤ xs.length ∧ s8 = .int .i64 k ∧ Hid (Below w.heap.size w wr) ∧ Hid (idxP p (xs.drop k) k = idxP p xs 0)) (fun _ s8 _ => xs.length - (intOf s8).toNat)
  case atStart => exact ⟨0, Nat.zero_le _, rfl, Lib.hid (Below.refl _ w), Lib.hid rfl⟩
  case round =>
    obtain ⟨k, hk, rfl, HB, HI⟩ := hrel
    by_cases hlt : k < xs.length
    · have hlt2 : (k : Int) < (xs.length : Int) := by omega
      obtain ⟨ad, rfl, g0⟩ := Kd.at_string (Kd.C_below HX.out HB.out) (k : Int) (by omega) (by omega)
      simp only [Int.toNat_natCast] at g0
      have hcall := HP.out wr (rdOf ByteArray.empty xs (k : Int)) (by simp [rd, rdOf, List.getD_eq_getElem?_getD, List.getElem?_eq_getElem hlt]) HB.out
      have HD := Lib.hid (drop_cons xs k ByteArray.empty hlt)
      have hr : Hid (rdOf ByteArray.empty xs (k : Int) = xs.getD k ByteArray.empty) := Lib.hid (by simp [rd, rdOf])
      generalize rdOf ByteArray.empty xs (k : Int) = y at *
      cases hq : p y with
      | true =>
        rw [hq] at hcall
        go_wp2_with (go_at_fn g; refine hcall.mono ?_; rintro e w' ⟨rfl, hb'⟩)
        go_ret
        refine ⟨ret_int ?_, HB.out.trans (below_down hb' HB.out.size)⟩
        have := HI.out; rw [HD.out, ← hr.out] at this
        rw [← this]; simp [idxP, hq]
      | false =>
        rw [hq] at hcall
        go_wp2_with (go_at_fn g; refine hcall.mono ?_; rintro e w' ⟨rfl, hb'⟩)
        go_roundw
        case rel =>
          refine ⟨k + 1, by omega, by go_num, Lib.hid (HB.out.trans (below_down hb' HB.out.size)), Lib.hid ?_⟩
          have := HI.out; rw [HD.out, ← hr.out] at this
          rw [← this]; simp [idxP, hq]
        case measure => simp [intOf]; omega
    · have hlt2 : ¬ (k : Int) < (xs.length : Int) := by omega
      go_wp2
      go_ret
      refine ⟨ret_int ?_, HB.out⟩
      have := HI.out; rw [List.drop_eq_nil_of_le (by omega)] at this
      rw [← this]; rfl

set_option maxHeartbeats 1000000 in
theorem ContainsFunc_string_calls (g : Nat) (lb : Array Value) (eg : ∀ args w, (callFunc g args).run Try.prog w = .ok (.enter g args) w) (p : ByteArray → Bool) (A : Option Addr) (c : Nat) (xs : List ByteArray) (w : World)
    (h : (Kd.string).C w A xs.length xs) (hp : PredOn Try.prog g lb (.string) p w xs) :
    Calls Try.prog 114 #[.slice A xs.length c, .func (.func g) #[] lb] w fun e w' => e = .returned (.bool (xs.any p)) ∧ Below w.heap.size w w' := by
  have HP := Lib.hid hp; clear hp
  have HX := Lib.hid h; clear h
  go_enter Try.func114, Try.ntmps114
  go_wp2_with (go_at_call 130; refine (IndexFunc_string_calls g lb eg p A c xs w HX.out HP.out).mono ?_; rintro e w' ⟨rfl, hb'⟩)
  go_ret
  exact ⟨ret_bool (idxP_any p xs 0), hb'⟩

set_option maxHeartbeats 1000000 in
theorem IndexFunc_int_calls (g : Nat) (lb : Array Value) (eg : ∀ args w, (callFunc g args).run Try.prog w = .ok (.enter g args) w) (p : Int → Bool) (A : Option Addr) (c : Nat) (xs : List Int) (w : World)
    (h : (Kd.int .i64).C w A xs.length xs) (hp : PredOn Try.prog g lb (.int .i64) p w xs) :
    Calls Try.prog 113 #[.slice A xs.length c, .func (.func g) #[] lb] w fun e w' => e = .returned (.int .i64 (idxP p xs 0)) ∧ Below w.heap.size w w' := by
  have hm := Kd.C_max h
  have HP := Lib.hid hp; clear hp
  have HX := Lib.hid h; clear h
  go_enter Try.func113, Try.ntmps113
  go_wp2
  go_loopw [5, 8] (fun _ s8 wr => ∃ k : Nat, k ≤ xs.length ∧ s8 = .int .i64 k ∧ Hid (Below w.heap.size w wr) ∧ Hid (idxP p (xs.drop k) k = idxP p xs 0)) (fun _ s8 _ => xs.length - (intOf s8).toNat)
  case atStart => exact ⟨0, Nat.zero_le _, rfl, Lib.hid (Below.refl _ w), Lib.hid rfl⟩
  case round =>
    obtain ⟨k, hk, rfl, HB, HI⟩ := hrel
    by_cases hlt : k < xs.length
    · have hlt2 : (k : Int) < (xs.length : Int) := by omega
      obtain ⟨ad, rfl, g0⟩ := Kd.at_int (Kd.C_below HX.out HB.out) (k : Int) (by omega) (by omega)
      simp only [Int.toNat_natCast] at g0
      have hcall := HP.out wr (rd xs (k : Int)) (by simp [rd, rdOf, List.getD_eq_getElem?_getD, List.getElem?_eq_getElem hlt]) HB.out
      have HD := Lib.hid (drop_cons xs k 0 hlt)
      have hr : Hid (rd xs (k : Int) = xs.getD k 0) := Lib.hid (by simp [rd, rdOf])
      generalize rd xs (k : Int) = y at *
      cases hq : p y with
      | true =>
        rw [hq] at hcall
        go_wp2_with (go_at_fn g; refine hcall.mono ?_; rintro e w' ⟨rfl, hb'⟩)
        go_ret
        refine ⟨ret_int ?_, HB.out.trans (below_down hb' HB.out.size)⟩
        have := HI.out; rw [HD.out, ← hr.out] at this
        rw [← this]; simp [idxP, hq]
      | false =>
        rw [hq] at hcall
        go_wp2_with (go_at_fn g; refine hcall.mono ?_; rintro e w' ⟨rfl, hb'⟩)
        go_roundw
        case rel =>
          refine ⟨k + 1, by omega, by go_num, Lib.hid (HB.out.trans (below_down hb' HB.out.size)), Lib.hid ?_⟩
          have := HI.out; rw [HD.out, ← hr.out] at this
          rw [← this]; simp [idxP, hq]
        case measure => simp [intOf]; omega
    · have hlt2 : ¬ (k : Int) < (xs.length : Int) := by omega
      go_wp2
      go_ret
      refine ⟨ret_int ?_, HB.out⟩
      have := HI.out; rw [List.drop_eq_nil_of_le (by omega)] at this
      rw [← this]; rfl

set_option maxHeartbeats 1000000 in
theorem ContainsFunc_int_calls (g : Nat) (lb : Array Value) (eg : ∀ args w, (callFunc g args).run Try.prog w = .ok (.enter g args) w) (p : Int → Bool) (A : Option Addr) (c : Nat) (xs : List Int) (w : World)
    (h : (Kd.int .i64).C w A xs.length xs) (hp : PredOn Try.prog g lb (.int .i64) p w xs) :
    Calls Try.prog 83 #[.slice A xs.length c, .func (.func g) #[] lb] w fun e w' => e = .returned (.bool (xs.any p)) ∧ Below w.heap.size w w' := by
  have HP := Lib.hid hp; clear hp
  have HX := Lib.hid h; clear h
  go_enter Try.func83, Try.ntmps83
  go_wp2_with (go_at_call 113; refine (IndexFunc_int_calls g lb eg p A c xs w HX.out HP.out).mono ?_; rintro e w' ⟨rfl, hb'⟩)
  go_ret
  exact ⟨ret_bool (idxP_any p xs 0), hb'⟩


set_option maxHeartbeats 1000000 in
theorem letter_Right_calls (A : Option Addr) (c : Nat) (xs : List ByteArray) (w : World) (h : Kd.string.C w A xs.length xs) (hs : ∀ x ∈ xs, x.size ≤ 140737488355328) :
    Calls Try.prog 85 #[.slice A xs.length c] w fun e w' => e = .returned (.bool (!xs.any fun s => wrongFrom (runes s) 0)) ∧ Below w.heap.size w w' := by
  have HP : Hid (PredOn Try.prog 115 #[] .string (fun s => wrongFrom (runes s) 0) w xs) := Lib.hid fun W x hx hB => (letter_wrong_calls x W (hs x hx)).mono fun e w' ⟨he, pos, hw⟩ => ⟨he, by subst hw; exact (Below.refl _ _).alloc (Nat.le_refl _) _⟩
  have HX := Lib.hid h; clear h
  go_enter Try.func85, Try.ntmps85
  go_wp2_with (go_at_call 114; refine (ContainsFunc_string_calls 115 #[] IdxFunc_enters_wrong _ A c xs w HX.out HP.out).mono ?_; rintro e w' ⟨rfl, hb'⟩)
  go_ret
  exact ⟨rfl, hb'⟩

theorem letter_Right_one (A : Option Addr) (c : Nat) (s : ByteArray) (w : World) (h : Kd.string.C w A [s].length [s]) (hs : s.size ≤ 140737488355328) (b : Bool) (hb : nameRight s = b) :
    Calls Try.prog 85 #[.slice A 1 c] w fun e w' => e = .returned (.bool b) ∧ Below w.heap.size w w' :=
  (letter_Right_calls A c [s] w h (by simpa using hs)).mono fun e w' ⟨he, hw⟩ => ⟨by rw [he, ← hb]; simp [nameRight], hw⟩
end Go.Proofs.Ytonbnlfijmapfaa
/- letter.Compare and the reference's Compare: texts rune by rune; the reference's Right. No condition but on sizes. -/
namespace Go.Proofs.Ytonbnlfijmapfaa
open Go.RowKit Go.Shelf Go.Proofs.YtonbnlfijmapfaaW.PrintWords
set_option linter.unusedVariables false
set_option linter.unusedSimpArgs false

def cmpL : List Int → List Int → Int
  | [], [] => 0
  | [], _ :: _ => -1
  | _ :: _, [] => 1
  | x :: xs, y :: ys => if x < y then -1 else if y < x then 1 else cmpL xs ys

theorem runes_of (s : ByteArray) : ∀ (f pos : Nat) (acc : Array Value), (Conv.runesFrom s f pos acc).toList = acc.toList ++ (runesFrom s f pos).map (Value.int .i32)
  | 0, _, acc => by simp [Conv.runesFrom, runesFrom]
  | f + 1, pos, acc => by
    unfold Conv.runesFrom runesFrom
    split
    · rw [runes_of s f]; simp
    · simp
theorem runes_conv_size (s : ByteArray) : (Conv.runesFrom s s.size 0 #[]).size = (runes s).length := by
  rw [← Array.length_toList, runes_of]; simp [runes]

/-- '[]rune(s)', behind one name. -/
theorem runes_conv (w : World) (s : ByteArray) (hs : s.size ≤ 70368744177664) :
    ∃ A cap W', (convert 9 159 (.string s)).run Try.prog w = .ok (.slice A (runes s).length cap) W' ∧ (Kd.int .i32).C W' A (runes s).length (runes s) ∧ Below w.heap.size w W' := by
  have hl := runes_length s
  have h := run_runes_of_string w 9 159 21 s Try.underlying9 Try.underlying159 Try.underlying21 (by rw [runes_conv_size]; omega)
  rw [runes_conv_size] at h
  refine ⟨_, _, _, h, ?_, (below_drew (Below.refl w.heap.size w)).alloc (Nat.le_refl _) _⟩
  refine Kd.C_of_reads (d := (0 : Int)) ⟨rfl, by omega, fun hn => ⟨_, rfl, fun j hj => ?_⟩⟩
  rw [add_plain]
  rw [show (w.drew.alloc (.cells (Conv.runesFrom s s.size 0 #[] ++ Array.replicate (grownCap w (runes s).length 0 21 - (runes s).length) (.int .i32 0)) 21)).cell? ⟨w.heap.size, j, none⟩ = _ from cell_of_row _ _ _ _ _ _ (heap_alloc_new w.drew _)]
  rw [Array.getElem?_append_left (by rw [runes_conv_size]; exact hj), ← Array.getElem?_toList, runes_of]
  simp [runes] at hj ⊢
  simp [hj, List.getD_eq_getElem?_getD]

set_option maxHeartbeats 1000000 in
theorem cmp_isNaN_rune_calls (x : Int) (w : World) : Calls Try.prog 159 #[.int .i32 x] w fun e w' => e = .returned (.bool false) ∧ w = w' := by
  go_enter Try.func159, Try.ntmps159
  go_wp2
  go_ret
  exact ⟨rfl, rfl⟩

def cmpI (x y : Int) : Int := if x < y then -1 else if y < x then 1 else 0
set_option maxHeartbeats 1000000 in
theorem cmp_Compare_rune_calls (x y : Int) (w : World) : Calls Try.prog 157 #[.int .i32 x, .int .i32 y] w fun e w' => e = .returned (.int .i64 (cmpI x y)) ∧ w = w' := by
  rcases Int.lt_trichotomy x y with h | h | h
  · have h1 : ¬ y < x := by omega
    go_enter Try.func157, Try.ntmps157
    go_wp2_with (go_at_call 159; refine (cmp_isNaN_rune_calls _ _).mono ?_; rintro e w' ⟨rfl, rfl⟩)
    go_ret
    exact ⟨by simp [cmpI, h], rfl⟩
  · subst h
    go_enter Try.func157, Try.ntmps157
    go_wp2_with (go_at_call 159; refine (cmp_isNaN_rune_calls _ _).mono ?_; rintro e w' ⟨rfl, rfl⟩)
    go_ret
    exact ⟨by simp [cmpI], rfl⟩
  · have h1 : ¬ x < y := by omega
    go_enter Try.func157, Try.ntmps157
    go_wp2_with (go_at_call 159; refine (cmp_isNaN_rune_calls _ _).mono ?_; rintro e w' ⟨rfl, rfl⟩)
    go_ret
    exact ⟨by simp [cmpI, h, h1], rfl⟩

theorem cmpL_step {xs ys : List Int} {k : Nat} (hx : k < xs.length) (hy : k < ys.length) :
    cmpL (xs.drop k) (ys.drop k) = if cmpI (rd xs k) (rd ys k) ≠ 0 then cmpI (rd xs k) (rd ys k) else cmpL (xs.drop (k + 1)) (ys.drop (k + 1)) := by
  rw [drop_cons xs k 0 hx, drop_cons ys k 0 hy]
  have e : ∀ (a b : Int) (s t : List Int), cmpL (a :: s) (b :: t) = if cmpI a b ≠ 0 then cmpI a b else cmpL s t := by
    intro a b s t
    rw [show cmpL (a :: s) (b :: t) = if a < b then -1 else if b < a then 1 else cmpL s t from rfl]
    unfold cmpI
    by_cases h1 : a < b
    · simp [h1]
    · by_cases h2 : b < a
      · simp [h1, h2]
      · simp [h1, h2]
  rw [e]; simp [rd]
theorem cmpL_end {xs ys : List Int} {k : Nat} (hx : k ≤ xs.length) (hy : k ≤ ys.length) (h : k = xs.length ∨ k = ys.length) :
    cmpL (xs.drop k) (ys.drop k) = cmpI xs.length ys.length := by
  rcases Nat.lt_trichotomy xs.length ys.length with h1 | h1 | h1
  · have : k = xs.length := by omega
    subst this
    rw [List.drop_length, drop_cons ys _ 0 h1]; simp [cmpL, cmpI, h1]
  · have : k = xs.length := by omega
    subst this
    rw [List.drop_length, h1, List.drop_length]; simp [cmpL, cmpI]
  · have : k = ys.length := by omega
    subst this
    rw [List.drop_length, drop_cons xs _ 0 h1]; simp [cmpL, cmpI]; omega

set_option maxHeartbeats 2000000 in
theorem slices_Compare_rune_calls (A B : Option Addr) (ca cb : Nat) (xs ys : List Int) (w : World) (hx : (Kd.int .i32).C w A xs.length xs) (hy : (Kd.int .i32).C w B ys.length ys) :
    Calls Try.prog 150 #[.slice A xs.length ca, .slice B ys.length cb] w fun e w' => e = .returned (.int .i64 (cmpL xs ys)) ∧ w = w' := by
  have m1 := Kd.C_max hx
  have m2 := Kd.C_max hy
  have HX := Lib.hid hx; clear hx
  have HY := Lib.hid hy; clear hy
  go_enter Try.func150, Try.ntmps150
  go_wp2
  go_loop [11] (fun s => ∃ k : Nat, k ≤ xs.length ∧ k ≤ ys.length ∧ s = .int .i64 k ∧ Hid (cmpL (xs.drop k) (ys.drop k) = cmpL xs ys)) (fun s => xs.length - (intOf s).toNat)
  case atStart => exact ⟨0, Nat.zero_le _, Nat.zero_le _, rfl, Lib.hid rfl⟩
  case round =>
    obtain ⟨k, hk, hk2, rfl, HI⟩ := hrel
    by_cases hlt : k < xs.length
    · obtain ⟨ad, rfl, g0⟩ := Kd.at_int HX.out (k : Int) (by omega) (by omega)
      simp only [Int.toNat_natCast] at g0
      by_cases hlt2 : k < ys.length
      · obtain ⟨bd, rfl, g1⟩ := Kd.at_int HY.out (k : Int) (by omega) (by omega)
        simp only [Int.toNat_natCast] at g1
        have HS := Lib.hid (cmpL_step hlt hlt2)
        generalize rd xs (k : Int) = x at *
        generalize rd ys (k : Int) = y at *
        rcases Int.lt_trichotomy x y with h | h | h
        · have hc : cmpI x y = -1 := by simp [cmpI, h]
          go_wp2_with (go_at_call 157; refine (cmp_Compare_rune_calls _ _ _).mono ?_; rintro e w' ⟨rfl, rfl⟩)
          go_ret
          exact ⟨ret_int (by rw [← HI.out, HS.out, hc]; rfl), rfl⟩
        · have hc : cmpI x y = 0 := by simp [cmpI, h]
          have HH := Lib.hid h; clear h
          go_wp2_with (go_at_call 157; refine (cmp_Compare_rune_calls _ _ _).mono ?_; rintro e w' ⟨rfl, rfl⟩)
          go_round
          case rel => exact ⟨k + 1, by omega, by omega, by go_num, Lib.hid (by rw [← HI.out, HS.out, hc]; rfl)⟩
          case measure => simp [intOf]; omega
        · have hc : cmpI x y = 1 := by have : ¬ x < y := by omega
                                       simp [cmpI, h, this]
          go_wp2_with (go_at_call 157; refine (cmp_Compare_rune_calls _ _ _).mono ?_; rintro e w' ⟨rfl, rfl⟩)
          go_ret
          exact ⟨ret_int (by rw [← HI.out, HS.out, hc]; rfl), rfl⟩
      · have HE := Lib.hid (cmpL_end hk hk2 (by omega))
        go_wp2
        go_ret
        exact ⟨ret_int (by rw [← HI.out, HE.out]; unfold cmpI; rw [if_neg (by omega), if_pos (by omega)]), rfl⟩
    · have HE := Lib.hid (cmpL_end hk hk2 (by omega))
      by_cases hlt2 : xs.length < ys.length
      · go_wp2
        go_ret
        exact ⟨ret_int (by rw [← HI.out, HE.out]; unfold cmpI; rw [if_pos (by omega)]), rfl⟩
      · go_wp2
        go_ret
        exact ⟨ret_int (by rw [← HI.out, HE.out]; unfold cmpI; rw [if_neg (by omega), if_neg (by omega)]), rfl⟩

/-- Texts, rune by rune. -/
def cmpS (a b : ByteArray) : Int := cmpL (runes a) (runes b)
set_option maxHeartbeats 1000000 in
theorem letter_Compare_calls (a b : ByteArray) (w : World) (ha : a.size ≤ 70368744177664) (hb : b.size ≤ 70368744177664) :
    Calls Try.prog 134 #[.string a, .string b] w fun e w' => e = .returned (.int .i64 (cmpS a b)) ∧ Below w.heap.size w w' := by
  obtain ⟨A1, c1, w1, e1, r1, b1⟩ := runes_conv w a ha
  obtain ⟨A2, c2, w2, e2, r2, b2⟩ := runes_conv w1 b hb
  have R1 := Lib.hid (Kd.C_below r1 b2); clear r1
  have R2 := Lib.hid r2; clear r2
  have B := Lib.hid (b1.trans (below_down b2 b1.size)); clear b1 b2
  go_enter Try.func134, Try.ntmps134
  go_wp2_with (go_at_call 150; refine (slices_Compare_rune_calls _ _ _ _ _ _ _ R1.out R2.out).mono ?_; rintro e w' ⟨rfl, rfl⟩)
  go_ret
  exact ⟨rfl, B.out⟩
end Go.Proofs.Ytonbnlfijmapfaa
/- The reference's Right, Compare of texts; value.thing, Right, and the reference's. No condition but on sizes. -/
namespace Go.Proofs.Ytonbnlfijmapfaa
open Go.RowKit Go.Shelf Go.Proofs.YtonbnlfijmapfaaW.PrintWords
set_option linter.unusedVariables false
set_option linter.unusedSimpArgs false

/-- The rest of a name. -/
def restOk (l : List Int) : Bool := l.all fun r => isLetter r || isDigit r
theorem wrong_rest : ∀ (l : List Int) (n : Nat), 0 < n → wrongFrom l n = !(restOk l && decide (n + l.length ≤ 32))
  | [], n, h => by
    have : (n == 0) = false := by simp; omega
    simp [wrongFrom, restOk, this]
    rw [Bool.eq_iff_iff]; simp
  | r :: t, n, h => by
    have h0 : (n == 0) = false := by simp; omega
    rw [wrongFrom, wrong_rest t (n + 1) (by omega), h0]
    unfold restOk
    rw [List.all_cons]
    cases isLetter r <;> cases isDigit r <;> simp <;> (try congr 1; funext; try simp; try omega)
    all_goals (rw [Bool.eq_iff_iff]; simp; try omega)

theorem right_runes (rs : List Int) : (!wrongFrom rs 0) = (decide (1 ≤ rs.length) && decide (rs.length ≤ 32) && isLetter (rd rs 0) && restOk (rs.drop 1)) := by
  cases rs with
  | nil => simp [wrongFrom]
  | cons r t =>
    rw [wrongFrom, wrong_rest t 1 (by omega)]
    simp [rd]
    cases isLetter r <;> simp
    rw [Bool.eq_iff_iff]; simp
    constructor <;> (rintro ⟨h1, h2⟩; exact ⟨by first | assumption | omega, by first | assumption | omega⟩)

theorem rest_step {l t : List Int} {r : Int} (h : l = r :: t) : (isLetter r = true → restOk l = restOk t) ∧ (48 ≤ r → r ≤ 57 → restOk l = restOk t) ∧ (¬ isLetter r = true → (r < 48 ∨ 57 < r) → restOk l = false) := by
  subst h
  unfold restOk
  rw [List.all_cons]
  refine ⟨fun h => by simp [h], fun h1 h2 => by simp [isDigit, h1, h2], fun h h1 => ?_⟩
  have : isDigit r = false := by
    unfold isDigit
    rcases h1 with h1 | h1
    · have : ¬ 48 ≤ r := by omega
      simp [this]
    · have : ¬ r ≤ 57 := by omega
      simp [this]
  simp [h, this]

set_option maxHeartbeats 2000000 in
theorem ref01_Right_calls (s : ByteArray) (w : World) (hs : s.size ≤ 100000) :
    Calls Try.prog 67 #[.string s] w fun e w' => e = .returned (.bool (nameRight s)) ∧ Below w.heap.size w w' := by
  have HR := Lib.hid (right_runes (runes s))
  have ha : ∀ w, Calls Try.prog 102 #[.string s] w _ := fun w => ref01_Runes_calls s w hs
  have HA := Lib.hid ha; clear ha
  by_cases h1 : 1 ≤ (runes s).length ∧ (runes s).length ≤ 32
  · obtain ⟨h1, h2⟩ := h1
    go_enter Try.func67, Try.ntmps67
    go_wp2_with fail
    refine (HA.out _).mono ?_
    rintro e w1 ⟨⟨v, rfl, hR⟩, hB⟩
    obtain ⟨A, c, rfl, hc, hC⟩ := Kd.R_reads hR
    obtain ⟨ad, rfl, g0⟩ := Kd.at_int hC 0 (by omega) (by omega)
    simp only [Int.toNat_zero, add_zero_] at g0
    have HC := Lib.hid hC; clear hC hR
    have HB := Lib.hid hB; clear hB
    cases hL : isLetter (rd (runes s) 0) with
    | false =>
      go_wp2_with (go_at_call 103; refine (ref01_letter_calls _ _).mono ?_; rintro e w' ⟨rfl, rfl⟩)
      go_ret
      exact ⟨ret_bool (by unfold nameRight; rw [HR.out, hL]; simp), HB.out⟩
    | true =>
      go_wp2_with (go_at_call 103; refine (ref01_letter_calls _ _).mono ?_; rintro e w' ⟨rfl, rfl⟩)
      go_loop [4] (fun i => ∃ k : Nat, 1 ≤ k ∧ k ≤ (runes s).length ∧ i = .int .i64 k ∧ Hid (restOk ((runes s).drop k) = nameRight s)) (fun i => (runes s).length - (intOf i).toNat)
      case atStart => exact ⟨1, by omega, by omega, rfl, Lib.hid (by unfold nameRight; rw [HR.out, hL]; simp [h1, h2])⟩
      case round =>
        obtain ⟨k, hk1, hk, rfl, HI⟩ := hrel
        clear g0 hL
        by_cases hlt : k < (runes s).length
        · obtain ⟨ad', e, g0⟩ := Kd.at_int HC.out (k : Int) (by omega) (by omega)
          obtain rfl : ad = ad' := by injection e
          clear e
          simp only [Int.toNat_natCast] at g0
          have HD := Lib.hid (rest_step (drop_cons (runes s) k 0 hlt))
          have hr : Hid (rd (runes s) (k : Int) = (runes s).getD k 0) := Lib.hid (by simp [rd])
          rw [← hr.out] at HD
          clear hr
          generalize rd (runes s) (k : Int) = y at *
          go_wp2_with (go_at_call 103; refine (ref01_letter_calls _ _).mono ?_; rintro e w' ⟨rfl, rfl⟩)
          all_goals first
            | (go_round
               case rel =>
                 refine ⟨k + 1, by omega, by omega, by go_num, Lib.hid ?_⟩
                 rw [← HI.out]
                 first | exact (HD.out.1 (by assumption)).symm | exact (HD.out.2.1 (by omega) (by omega)).symm
               case measure => simp [intOf]; omega)
            | (go_ret
               refine ⟨ret_bool ?_, HB.out⟩
               rw [← HI.out]
               exact (HD.out.2.2 (by assumption) (by go_tidy; (try simp only [beq_iff_eq] at *); omega)).symm)
        · go_wp2
          go_ret
          refine ⟨ret_bool ?_, HB.out⟩
          rw [← HI.out, List.drop_eq_nil_of_le (by omega)]; rfl
  · go_enter Try.func67, Try.ntmps67
    go_wp2_with fail
    refine (HA.out _).mono ?_
    rintro e w1 ⟨⟨v, rfl, hR⟩, hB⟩
    obtain ⟨A, c, rfl, hc, hC⟩ := Kd.R_reads hR
    have HB := Lib.hid hB; clear hB
    by_cases h2 : (runes s).length < 1
    · go_wp2
      go_ret
      exact ⟨ret_bool (by unfold nameRight; rw [HR.out]; have : ¬ 1 ≤ (runes s).length := by omega
                          simp [this]), HB.out⟩
    · have h3 : 32 < (runes s).length := by omega
      go_wp2
      go_ret
      exact ⟨ret_bool (by unfold nameRight; rw [HR.out]; have : ¬ (runes s).length ≤ 32 := by omega
                          simp [this]), HB.out⟩
end Go.Proofs.Ytonbnlfijmapfaa
/- value.thing, Right, and the reference's. No condition but on sizes. -/
namespace Go.Proofs.Ytonbnlfijmapfaa
open Go.RowKit Go.Shelf Go.Proofs.YtonbnlfijmapfaaW.PrintWords
set_option linter.unusedVariables false
set_option linter.unusedSimpArgs false

/-- Is a value right? -/
def valOk (k n : Int) (s : ByteArray) : Bool := (k == 1 && s.toList.isEmpty) || (k == 2 && n == 0 && decide ((s.size : Int) ≤ 200))
def thingV (k n : Int) (s : ByteArray) : Value := if k = 1 then (if s.toList.isEmpty = true then .iface 3 (.int .i64 n) else .nilIface) else if k = 2 ∧ n = 0 ∧ (s.size : Int) ≤ 200 then .iface 9 (.string s) else .nilIface
theorem thingV_cases (k n : Int) (s : ByteArray) : (valOk k n s = false ∧ thingV k n s = .nilIface) ∨ (valOk k n s = true ∧ k = 1 ∧ s.toList.isEmpty = true ∧ thingV k n s = .iface 3 (.int .i64 n)) ∨
    (valOk k n s = true ∧ k = 2 ∧ n = 0 ∧ (s.size : Int) ≤ 200 ∧ thingV k n s = .iface 9 (.string s)) := by
  unfold valOk thingV
  by_cases h1 : k = 1
  · subst h1
    cases h2 : s.toList.isEmpty <;> simp
  · by_cases h2 : k = 2
    · subst h2
      by_cases h3 : n = 0
      · by_cases h4 : (s.size : Int) ≤ 200
        · simp [h3, h4]
        · simp [h3, h4]
      · simp [h3]
    · simp [h1, h2]

set_option maxHeartbeats 2000000 in
theorem value_thing_calls (k n : Int) (s : ByteArray) (w : World) :
    Calls Try.prog 105 #[.agg #[.int .i64 k, .int .i64 n, .string s]] w fun e w' => e = .returned (thingV k n s) ∧ Below w.heap.size w w' := by
  go_enter Try.func105, Try.ntmps105
  go_wp2
  all_goals
    go_ret
    refine ⟨congrArg Ending.returned ?_, (Below.refl _ _).alloc (Nat.le_refl _) _⟩
    go_tidy
    unfold thingV
    first | (simp_all; done) | (simp_all; omega)

set_option maxHeartbeats 2000000 in
theorem value_Right1_calls (k n : Int) (s : ByteArray) (w : World) :
    Calls Try.prog 133 #[.agg #[.int .i64 k, .int .i64 n, .string s]] w fun e w' => e = .returned (.bool (!valOk k n s)) ∧ Below w.heap.size w w' := by
  have HT := Lib.hid (thingV_cases k n s)
  go_enter Try.func133, Try.ntmps133
  go_wp2_with fail
  refine (value_thing_calls _ _ _ _).mono ?_
  rintro e w1 ⟨rfl, hB⟩
  have HB := Lib.hid (((Below.refl w.heap.size w).alloc (Nat.le_refl _) _).trans (below_down hB (by simp))); clear hB
  rcases HT.out with ⟨h, h2⟩ | ⟨h, h1, h3, h2⟩ | ⟨h, h1, h3, h4, h2⟩
  all_goals
    rw [h2]
    go_wp2
    go_ret
    exact ⟨ret_bool (by rw [h]; rfl), HB.out⟩

set_option maxHeartbeats 2000000 in
theorem ref02_Right_calls (k n : Int) (s : ByteArray) (w : World) :
    Calls Try.prog 22 #[.agg #[.int .i64 k, .int .i64 n, .string s]] w fun e w' => e = .returned (.bool (valOk k n s)) ∧ Below w.heap.size w w' := by
  go_enter Try.func22, Try.ntmps22
  go_wp2
  all_goals
    go_ret
    refine ⟨ret_bool ?_, (Below.refl _ _).alloc (Nat.le_refl _) _⟩
    go_tidy
    unfold valOk
    simp_all

def SValue.ok (v : SValue) : Bool := valOk v.f0 v.f1 v.f2
abbrev SValue.val (v : SValue) : Value := .agg #[.int .i64 v.f0, .int .i64 v.f1, .string v.f2]

set_option maxHeartbeats 1000000 in
theorem IndexFunc_Value_calls (g : Nat) (lb : Array Value) (eg : ∀ args w, (callFunc g args).run Try.prog w = .ok (.enter g args) w) (p : SValue → Bool) (A : Option Addr) (c : Nat) (xs : List SValue) (w : World)
    (h : kValue.C w A xs.length xs) (hp : PredOn Try.prog g lb SValue.val p w xs) :
    Calls Try.prog 149 #[.slice A xs.length c, .func (.func g) #[] lb] w fun e w' => e = .returned (.int .i64 (idxP p xs 0)) ∧ Below w.heap.size w w' := by
  have hm := Kd.C_max h
  have HP := Lib.hid hp; clear hp
  have HX := Lib.hid h; clear h
  go_enter Try.func149, Try.ntmps149
  go_wp2
  go_loopw [5, 8] (fun _ s8 wr => ∃ k : Nat, k ≤ xs.length ∧ s8 = .int .i64 k ∧ Hid (Below w.heap.size w wr) ∧ Hid (idxP p (xs.drop k) k = idxP p xs 0)) (fun _ s8 _ => xs.length - (intOf s8).toNat)
  case atStart => exact ⟨0, Nat.zero_le _, rfl, Lib.hid (Below.refl _ w), Lib.hid rfl⟩
  case round =>
    obtain ⟨k, hk, rfl, HB, HI⟩ := hrel
    by_cases hlt : k < xs.length
    · have hlt2 : (k : Int) < (xs.length : Int) := by omega
      obtain ⟨ad, rfl, g0, g1, g2⟩ := at_Value (Kd.C_below HX.out HB.out) (k : Int) (by omega) (by omega)
      simp only [Int.toNat_natCast] at g0 g1 g2
      have hcall := HP.out wr (rd_Value xs (k : Int)) (by simp [rd_Value, List.getD_eq_getElem?_getD, List.getElem?_eq_getElem hlt]) HB.out
      have HD := Lib.hid (drop_cons xs k zValue hlt)
      have hr : Hid (rd_Value xs (k : Int) = xs.getD k zValue) := Lib.hid (by simp [rd_Value])
      generalize rd_Value xs (k : Int) = y at *
      obtain ⟨y0, y1, y2⟩ := y
      simp only [SValue.val] at *
      cases hq : p ⟨y0, y1, y2⟩ with
      | true =>
        rw [hq] at hcall
        go_wp2_with (go_at_fn g; refine hcall.mono ?_; rintro e w' ⟨rfl, hb'⟩)
        go_ret
        refine ⟨ret_int ?_, HB.out.trans (below_down hb' HB.out.size)⟩
        have := HI.out; rw [HD.out, ← hr.out] at this
        rw [← this]; simp [idxP, hq]
      | false =>
        rw [hq] at hcall
        go_wp2_with (go_at_fn g; refine hcall.mono ?_; rintro e w' ⟨rfl, hb'⟩)
        go_roundw
        case rel =>
          refine ⟨k + 1, by omega, by go_num, Lib.hid (HB.out.trans (below_down hb' HB.out.size)), Lib.hid ?_⟩
          have := HI.out; rw [HD.out, ← hr.out] at this
          rw [← this]; simp [idxP, hq]
        case measure => simp [intOf]; omega
    · have hlt2 : ¬ (k : Int) < (xs.length : Int) := by omega
      go_wp2
      go_ret
      refine ⟨ret_int ?_, HB.out⟩
      have := HI.out; rw [List.drop_eq_nil_of_le (by omega)] at this
      rw [← this]; rfl

set_option maxHeartbeats 1000000 in
theorem ContainsFunc_Value_calls (g : Nat) (lb : Array Value) (eg : ∀ args w, (callFunc g args).run Try.prog w = .ok (.enter g args) w) (p : SValue → Bool) (A : Option Addr) (c : Nat) (xs : List SValue) (w : World)
    (h : kValue.C w A xs.length xs) (hp : PredOn Try.prog g lb SValue.val p w xs) :
    Calls Try.prog 132 #[.slice A xs.length c, .func (.func g) #[] lb] w fun e w' => e = .returned (.bool (xs.any p)) ∧ Below w.heap.size w w' := by
  have HP := Lib.hid hp; clear hp
  have HX := Lib.hid h; clear h
  go_enter Try.func132, Try.ntmps132
  go_wp2_with (go_at_call 149; refine (IndexFunc_Value_calls g lb eg p A c xs w HX.out HP.out).mono ?_; rintro e w' ⟨rfl, hb'⟩)
  go_ret
  exact ⟨ret_bool (idxP_any p xs 0), hb'⟩

theorem enters_Right1 : ∀ args w, (callFunc 133 args).run Try.prog w = .ok (.enter 133 args) w := enters_of Try.func133 (by kernel_rfl) rfl

set_option maxHeartbeats 1000000 in
theorem value_Right_calls (A : Option Addr) (c : Nat) (xs : List SValue) (w : World) (h : kValue.C w A xs.length xs) :
    Calls Try.prog 116 #[.slice A xs.length c] w fun e w' => e = .returned (.bool (!xs.any fun v => !v.ok)) ∧ Below w.heap.size w w' := by
  have HP : Hid (PredOn Try.prog 133 #[] SValue.val (fun v => !v.ok) w xs) := Lib.hid fun W x hx hB => value_Right1_calls x.f0 x.f1 x.f2 W
  have HX := Lib.hid h; clear h
  go_enter Try.func116, Try.ntmps116
  go_wp2_with (go_at_call 132; refine (ContainsFunc_Value_calls 133 #[] enters_Right1 _ A c xs w HX.out HP.out).mono ?_; rintro e w' ⟨rfl, hb'⟩)
  go_ret
  exact ⟨rfl, hb'⟩

theorem value_Right_one (A : Option Addr) (c : Nat) (v : SValue) (w : World) (h : kValue.C w A [v].length [v]) (b : Bool) (hb : v.ok = b) :
    Calls Try.prog 116 #[.slice A 1 c] w fun e w' => e = .returned (.bool b) ∧ Below w.heap.size w w' :=
  (value_Right_calls A c [v] w h).mono fun e w' ⟨he, hw⟩ => ⟨by rw [he, ← hb]; simp, hw⟩
end Go.Proofs.Ytonbnlfijmapfaa
