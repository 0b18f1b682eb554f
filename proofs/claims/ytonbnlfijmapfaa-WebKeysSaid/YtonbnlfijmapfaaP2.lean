/- Plain: the order of lists of numbers, of a value's bytes, of values. No condition. -/
import Derived.Test.YtonbnlfijmapfaaP0
namespace Go.Proofs.Ytonbnlfijmapfaa
open Go

/-- The order of lists, number by number. -/
def ord : List Int → List Int → Int
  | [], [] => 0
  | [], _ :: _ => -1
  | _ :: _, [] => 1
  | x :: xs, y :: ys => if x = y then ord xs ys else if x < y then -1 else 1
theorem ord_refl : ∀ (l : List Int), ord l l = 0
  | [] => rfl
  | x :: xs => by rw [ord, if_pos rfl, ord_refl xs]
theorem ord_eq : ∀ {a b : List Int}, ord a b = 0 → a = b
  | [], [], _ => rfl
  | [], _ :: _, h => by simp [ord] at h
  | _ :: _, [], h => by simp [ord] at h
  | x :: xs, y :: ys, h => by
    rw [ord] at h
    by_cases hx : x = y
    · rw [if_pos hx] at h; rw [hx, ord_eq h]
    · rw [if_neg hx] at h; split at h <;> omega
theorem ord_same (p a b : List Int) : ord (p ++ a) (p ++ b) = ord a b := by
  induction p with
  | nil => rfl
  | cons x p ih => rw [List.cons_append, List.cons_append, ord, if_pos rfl, ih]
/-- Of one length: what stands behind counts just where they are the same. -/
theorem ord_fixed : ∀ (a b c d : List Int), a.length = b.length → ord (a ++ c) (b ++ d) = if ord a b = 0 then ord c d else ord a b
  | [], [], c, d, _ => by simp [ord]
  | [], _ :: _, _, _, h => by simp at h
  | _ :: _, [], _, _, h => by simp at h
  | x :: xs, y :: ys, c, d, h => by
    rw [List.cons_append, List.cons_append, ord, ord]
    by_cases hx : x = y
    · rw [if_pos hx, if_pos hx]; exact ord_fixed xs ys c d (by simpa using h)
    · rw [if_neg hx, if_neg hx]; split <;> simp
/-- The number of bytes, the greatest first. -/
def numOf : List Int → Int
  | [] => 0
  | x :: xs => x * 256 ^ xs.length + numOf xs
theorem numOf_lt : ∀ (l : List Int), (∀ x ∈ l, 0 ≤ x ∧ x < 256) → 0 ≤ numOf l ∧ numOf l < 256 ^ l.length
  | [], _ => by simp [numOf]
  | x :: xs, h => by
    have h1 := numOf_lt xs (fun y hy => h y (List.mem_cons_of_mem _ hy))
    have h2 := h x List.mem_cons_self
    have hp : (0 : Int) < 256 ^ xs.length := Int.pow_pos (by decide)
    rw [numOf, List.length_cons, Int.pow_succ]
    have h3 : x * 256 ^ xs.length ≤ 255 * 256 ^ xs.length := Int.mul_le_mul_of_nonneg_right (by omega) (by omega)
    have h4 : 0 ≤ x * 256 ^ xs.length := Int.mul_nonneg h2.1 (by omega)
    omega
theorem ord_numOf : ∀ (a b : List Int), a.length = b.length → (∀ x ∈ a, 0 ≤ x ∧ x < 256) → (∀ x ∈ b, 0 ≤ x ∧ x < 256) → ord a b = if numOf a = numOf b then 0 else if numOf a < numOf b then -1 else 1
  | [], [], _, _, _ => by simp [ord, numOf]
  | [], _ :: _, h, _, _ => by simp at h
  | _ :: _, [], h, _, _ => by simp at h
  | x :: xs, y :: ys, h, ha, hb => by
    have hl : xs.length = ys.length := by simpa using h
    have ih := ord_numOf xs ys hl (fun z hz => ha z (List.mem_cons_of_mem _ hz)) (fun z hz => hb z (List.mem_cons_of_mem _ hz))
    have h1 := numOf_lt xs (fun z hz => ha z (List.mem_cons_of_mem _ hz))
    have h2 := numOf_lt ys (fun z hz => hb z (List.mem_cons_of_mem _ hz))
    rw [ord, numOf, numOf, hl]
    rw [hl] at h1
    by_cases hx : x = y
    · rw [if_pos hx, ih, hx]
      by_cases e : numOf xs = numOf ys
      · rw [if_pos e, if_pos (by omega)]
      · rw [if_neg e]
        by_cases e2 : numOf xs < numOf ys
        · rw [if_pos e2, if_neg (by omega), if_pos (by omega)]
        · rw [if_neg e2, if_neg (by omega), if_neg (by omega)]
    · rw [if_neg hx]
      have hp : (0 : Int) < 256 ^ ys.length := Int.pow_pos (by decide)
      generalize (256 : Int) ^ ys.length = P at hp h1 h2 ⊢
      clear ih hl ha hb h
      rcases Int.lt_or_gt_of_ne hx with h3 | h3
      · rw [if_pos h3]
        have h4 : (x + 1) * P ≤ y * P := Int.mul_le_mul_of_nonneg_right (by omega) (by omega)
        rw [Int.add_mul, Int.one_mul] at h4
        have h5 : ¬ x * P + numOf xs = y * P + numOf ys := by omega
        have h6 : x * P + numOf xs < y * P + numOf ys := by omega
        rw [if_neg h5, if_pos h6]
      · rw [if_neg (by omega)]
        have h4 : (y + 1) * P ≤ x * P := Int.mul_le_mul_of_nonneg_right (by omega) (by omega)
        rw [Int.add_mul, Int.one_mul] at h4
        have h5 : ¬ x * P + numOf xs = y * P + numOf ys := by omega
        have h6 : ¬ x * P + numOf xs < y * P + numOf ys := by omega
        rw [if_neg h5, if_neg h6]
theorem numOf_u8z (u : Int) (h0 : 0 ≤ u) (h1 : u < 18446744073709551616) : numOf ((List.range 8).map (u8z u)) = u := by
  have e : (List.range 8).map (u8z u) = [u / 72057594037927936 % 256, u / 281474976710656 % 256, u / 1099511627776 % 256, u / 4294967296 % 256, u / 16777216 % 256, u / 65536 % 256, u / 256 % 256, u / 1 % 256] := rfl
  rw [e]
  simp only [numOf, List.length_cons, List.length_nil, Nat.reduceAdd]
  have : (256 : Int) ^ 7 = 72057594037927936 ∧ (256 : Int) ^ 6 = 281474976710656 ∧ (256 : Int) ^ 5 = 1099511627776 ∧ (256 : Int) ^ 4 = 4294967296 ∧ (256 : Int) ^ 3 = 16777216 ∧ (256 : Int) ^ 2 = 65536 ∧ (256 : Int) ^ 1 = 256 ∧ (256 : Int) ^ 0 = 1 := ⟨rfl, rfl, rfl, rfl, rfl, rfl, rfl, rfl⟩
  obtain ⟨e7, e6, e5, e4, e3, e2, e1, e0⟩ := this
  rw [e7, e6, e5, e4, e3, e2, e1, e0]
  omega
theorem ord_intBytes (m n : Int) (a b : List Int) (hm0 : -9223372036854775808 ≤ m) (hm1 : m ≤ 9223372036854775807) (hn0 : -9223372036854775808 ≤ n) (hn1 : n ≤ 9223372036854775807) :
    ord (intBytes m ++ a) (intBytes n ++ b) = if m = n then ord a b else if m < n then -1 else 1 := by
  have B : ∀ u, ∀ x ∈ (List.range 8).map (u8z u), 0 ≤ x ∧ x < 256 := by
    intro u x hx
    simp only [List.mem_map] at hx
    obtain ⟨j, _, rfl⟩ := hx
    unfold u8z; omega
  rw [ord_fixed _ _ _ _ (by rw [intBytes_length, intBytes_length])]
  have e : ord (intBytes m) (intBytes n) = if m = n then 0 else if m < n then -1 else 1 := by
    rw [intBytes, intBytes, ord, if_pos rfl, ord_numOf _ _ (by simp) (B _) (B _), numOf_u8z _ (by omega) (by omega), numOf_u8z _ (by omega) (by omega)]
    by_cases h : m = n
    · rw [if_pos (by omega), if_pos h]
    · rw [if_neg (by omega), if_neg h]
      by_cases h2 : m < n
      · rw [if_pos (by omega), if_pos h2]
      · rw [if_neg (by omega), if_neg h2]
  rw [e]
  by_cases h : m = n
  · rw [if_pos h, if_pos rfl, if_pos h]
  · rw [if_neg h, if_neg h]; split <;> simp
theorem ord_cons (x y : Int) (a b : List Int) : ord (x :: a) (y :: b) = if x = y then ord a b else if x < y then -1 else 1 := rfl
theorem ord_lt (x y : Int) (a b : List Int) (h : x < y) : ord (x :: a) (y :: b) = -1 := by rw [ord_cons, if_neg (by omega), if_pos h]
theorem ord_gt (x y : Int) (a b : List Int) (h : y < x) : ord (x :: a) (y :: b) = 1 := by rw [ord_cons, if_neg (by omega), if_neg (by omega)]
theorem ord_at (x : Int) (a b : List Int) : ord (x :: a) (x :: b) = ord a b := by rw [ord_cons, if_pos rfl]
theorem esc_0 (t : List Int) : esc (0 :: t) = 0 :: 255 :: esc t := by rw [esc, if_pos rfl]
theorem esc_1 (x : Int) (t : List Int) (h : ¬ x = 0) : esc (x :: t) = x :: esc t := by rw [esc, if_neg h]
/-- The first difference decides. -/
def lexOr (a b : Int) : Int := if a = 0 then b else a
theorem lexOr_0 (b : Int) : lexOr 0 b = b := if_pos rfl
theorem lexOr_1 (b : Int) : lexOr 1 b = 1 := rfl
theorem lexOr_m (b : Int) : lexOr (-1) b = -1 := rfl
/-- A text's bytes: the order is the text's. -/
theorem ord_esc : ∀ (s t a b : List Int), (∀ x ∈ s, 0 ≤ x) → (∀ x ∈ t, 0 ≤ x) → ord (esc s ++ (0 :: 0 :: a)) (esc t ++ (0 :: 0 :: b)) = lexOr (ord s t) (ord a b)
  | [], [], a, b, _, _ => by
    show ord (0 :: 0 :: a) (0 :: 0 :: b) = lexOr 0 (ord a b)
    rw [ord_at, ord_at, lexOr_0]
  | [], y :: t, a, b, _, hb => by
    have hy := hb y List.mem_cons_self
    show ord (0 :: 0 :: a) (esc (y :: t) ++ (0 :: 0 :: b)) = lexOr (-1) (ord a b)
    rw [lexOr_m]
    by_cases h : y = 0
    · subst h; rw [esc_0]; simp only [List.cons_append]; rw [ord_at, ord_lt _ _ _ _ (by omega)]
    · rw [esc_1 _ _ h, List.cons_append, ord_lt _ _ _ _ (by omega)]
  | x :: s, [], a, b, ha, _ => by
    have hx := ha x List.mem_cons_self
    show ord (esc (x :: s) ++ (0 :: 0 :: a)) (0 :: 0 :: b) = lexOr 1 (ord a b)
    rw [lexOr_1]
    by_cases h : x = 0
    · subst h; rw [esc_0]; simp only [List.cons_append]; rw [ord_at, ord_gt _ _ _ _ (by omega)]
    · rw [esc_1 _ _ h, List.cons_append, ord_gt _ _ _ _ (by omega)]
  | x :: s, y :: t, a, b, ha, hb => by
    have ih := ord_esc s t a b (fun z hz => ha z (List.mem_cons_of_mem _ hz)) (fun z hz => hb z (List.mem_cons_of_mem _ hz))
    have hx := ha x List.mem_cons_self
    have hy := hb y List.mem_cons_self
    by_cases h : x = y
    · subst h
      rw [ord_at, ← ih]
      by_cases h0 : x = 0
      · subst h0; rw [esc_0, esc_0]; simp only [List.cons_append]; rw [ord_at, ord_at]
      · rw [esc_1 _ _ h0, esc_1 _ _ h0, List.cons_append, List.cons_append, ord_at]
    · rcases Int.lt_or_gt_of_ne h with h3 | h3
      · rw [ord_lt _ _ _ _ h3, lexOr_m]
        rw [esc_1 y t (by omega)]
        by_cases h0 : x = 0
        · subst h0; rw [esc_0]; simp only [List.cons_append]; rw [ord_lt _ _ _ _ h3]
        · rw [esc_1 _ _ h0]; simp only [List.cons_append]; rw [ord_lt _ _ _ _ h3]
      · rw [ord_gt _ _ _ _ h3, lexOr_1]
        rw [esc_1 x s (by omega)]
        by_cases h0 : y = 0
        · subst h0; rw [esc_0]; simp only [List.cons_append]; rw [ord_gt _ _ _ _ h3]
        · rw [esc_1 _ _ h0]; simp only [List.cons_append]; rw [ord_gt _ _ _ _ h3]
end Go.Proofs.Ytonbnlfijmapfaa
