/- letter.Compare and the reference's Compare: texts rune by rune; the reference's Right. No condition but on sizes. -/
import Derived.Test.YtonbnlfijmapfaaL3
import Derived.Laws.IdiomStrings
namespace Go.Proofs.Ytonbnlfijmapfaa
open Go.RowKit Go.Shelf Go.Proofs.YtonbnlfijmapfaaW.PrintWords
set_option linter.unusedVariables false
set_option linter.unusedSimpArgs false

def cmpL : List Int → List Int → Int
  | [], [] => 0
  | [], _ :: _ => -1
  | _ :: _, [] => 1
  | x :: xs, y :: ys => if x < y then -1 else if y < x then 1 else cmpL xs ys

theorem runes_of (s : ByteArray) : ∀ (f pos : Nat) (acc : Array Value), (Conv.runesFrom s f pos acc).toList = acc.toList ++ (runesFrom s f pos).map (Value.int .i32)
  | 0, _, acc => by simp [Conv.runesFrom, runesFrom]
  | f + 1, pos, acc => by
    unfold Conv.runesFrom runesFrom
    split
    · rw [runes_of s f]; simp
    · simp
theorem runes_conv_size (s : ByteArray) : (Conv.runesFrom s s.size 0 #[]).size = (runes s).length := by
  rw [← Array.length_toList, runes_of]; simp [runes]

/-- '[]rune(s)', behind one name. -/
theorem runes_conv (w : World) (s : ByteArray) (hs : s.size ≤ 70368744177664) :
    ∃ A cap W', (convert 9 159 (.string s)).run Try.prog w = .ok (.slice A (runes s).length cap) W' ∧ (Kd.int .i32).C W' A (runes s).length (runes s) ∧ Below w.heap.size w W' := by
  have hl := runes_length s
  have h := run_runes_of_string w 9 159 21 s Try.underlying9 Try.underlying159 Try.underlying21 (by rw [runes_conv_size]; omega)
  rw [runes_conv_size] at h
  refine ⟨_, _, _, h, ?_, (below_drew (Below.refl w.heap.size w)).alloc (Nat.le_refl _) _⟩
  refine Kd.C_of_reads (d := (0 : Int)) ⟨rfl, by omega, fun hn => ⟨_, rfl, fun j hj => ?_⟩⟩
  rw [add_plain]
  rw [show (w.drew.alloc (.cells (Conv.runesFrom s s.size 0 #[] ++ Array.replicate (grownCap w (runes s).length 0 21 - (runes s).length) (.int .i32 0)) 21)).cell? ⟨w.heap.size, j, none⟩ = _ from cell_of_row _ _ _ _ _ _ (heap_alloc_new w.drew _)]
  rw [Array.getElem?_append_left (by rw [runes_conv_size]; exact hj), ← Array.getElem?_toList, runes_of]
  simp [runes] at hj ⊢
  simp [hj, List.getD_eq_getElem?_getD]

set_option maxHeartbeats 1000000 in
theorem cmp_isNaN_rune_calls (x : Int) (w : World) : Calls Try.prog 159 #[.int .i32 x] w fun e w' => e = .returned (.bool false) ∧ w = w' := by
  go_enter Try.func159, Try.ntmps159
  go_wp2
  go_ret
  exact ⟨rfl, rfl⟩

def cmpI (x y : Int) : Int := if x < y then -1 else if y < x then 1 else 0
set_option maxHeartbeats 1000000 in
theorem cmp_Compare_rune_calls (x y : Int) (w : World) : Calls Try.prog 157 #[.int .i32 x, .int .i32 y] w fun e w' => e = .returned (.int .i64 (cmpI x y)) ∧ w = w' := by
  rcases Int.lt_trichotomy x y with h | h | h
  · have h1 : ¬ y < x := by omega
    go_enter Try.func157, Try.ntmps157
    go_wp2_with (go_at_call 159; refine (cmp_isNaN_rune_calls _ _).mono ?_; rintro e w' ⟨rfl, rfl⟩)
    go_ret
    exact ⟨by simp [cmpI, h], rfl⟩
  · subst h
    go_enter Try.func157, Try.ntmps157
    go_wp2_with (go_at_call 159; refine (cmp_isNaN_rune_calls _ _).mono ?_; rintro e w' ⟨rfl, rfl⟩)
    go_ret
    exact ⟨by simp [cmpI], rfl⟩
  · have h1 : ¬ x < y := by omega
    go_enter Try.func157, Try.ntmps157
    go_wp2_with (go_at_call 159; refine (cmp_isNaN_rune_calls _ _).mono ?_; rintro e w' ⟨rfl, rfl⟩)
    go_ret
    exact ⟨by simp [cmpI, h, h1], rfl⟩

theorem cmpL_step {xs ys : List Int} {k : Nat} (hx : k < xs.length) (hy : k < ys.length) :
    cmpL (xs.drop k) (ys.drop k) = if cmpI (rd xs k) (rd ys k) ≠ 0 then cmpI (rd xs k) (rd ys k) else cmpL (xs.drop (k + 1)) (ys.drop (k + 1)) := by
  rw [drop_cons xs k 0 hx, drop_cons ys k 0 hy]
  have e : ∀ (a b : Int) (s t : List Int), cmpL (a :: s) (b :: t) = if cmpI a b ≠ 0 then cmpI a b else cmpL s t := by
    intro a b s t
    rw [show cmpL (a :: s) (b :: t) = if a < b then -1 else if b < a then 1 else cmpL s t from rfl]
    unfold cmpI
    by_cases h1 : a < b
    · simp [h1]
    · by_cases h2 : b < a
      · simp [h1, h2]
      · simp [h1, h2]
  rw [e]; simp [rd]
theorem cmpL_end {xs ys : List Int} {k : Nat} (hx : k ≤ xs.length) (hy : k ≤ ys.length) (h : k = xs.length ∨ k = ys.length) :
    cmpL (xs.drop k) (ys.drop k) = cmpI xs.length ys.length := by
  rcases Nat.lt_trichotomy xs.length ys.length with h1 | h1 | h1
  · have : k = xs.length := by omega
    subst this
    rw [List.drop_length, drop_cons ys _ 0 h1]; simp [cmpL, cmpI, h1]
  · have : k = xs.length := by omega
    subst this
    rw [List.drop_length, h1, List.drop_length]; simp [cmpL, cmpI]
  · have : k = ys.length := by omega
    subst this
    rw [List.drop_length, drop_cons xs _ 0 h1]; simp [cmpL, cmpI]; omega

set_option maxHeartbeats 2000000 in
theorem slices_Compare_rune_calls (A B : Option Addr) (ca cb : Nat) (xs ys : List Int) (w : World) (hx : (Kd.int .i32).C w A xs.length xs) (hy : (Kd.int .i32).C w B ys.length ys) :
    Calls Try.prog 150 #[.slice A xs.length ca, .slice B ys.length cb] w fun e w' => e = .returned (.int .i64 (cmpL xs ys)) ∧ w = w' := by
  have m1 := Kd.C_max hx
  have m2 := Kd.C_max hy
  have HX := Lib.hid hx; clear hx
  have HY := Lib.hid hy; clear hy
  go_enter Try.func150, Try.ntmps150
  go_wp2
  go_loop [11] (fun s => ∃ k : Nat, k ≤ xs.length ∧ k ≤ ys.length ∧ s = .int .i64 k ∧ Hid (cmpL (xs.drop k) (ys.drop k) = cmpL xs ys)) (fun s => xs.length - (intOf s).toNat)
  case atStart => exact ⟨0, Nat.zero_le _, Nat.zero_le _, rfl, Lib.hid rfl⟩
  case round =>
    obtain ⟨k, hk, hk2, rfl, HI⟩ := hrel
    by_cases hlt : k < xs.length
    · obtain ⟨ad, rfl, g0⟩ := Kd.at_int HX.out (k : Int) (by omega) (by omega)
      simp only [Int.toNat_natCast] at g0
      by_cases hlt2 : k < ys.length
      · obtain ⟨bd, rfl, g1⟩ := Kd.at_int HY.out (k : Int) (by omega) (by omega)
        simp only [Int.toNat_natCast] at g1
        have HS := Lib.hid (cmpL_step hlt hlt2)
        generalize rd xs (k : Int) = x at *
        generalize rd ys (k : Int) = y at *
        rcases Int.lt_trichotomy x y with h | h | h
        · have hc : cmpI x y = -1 := by simp [cmpI, h]
          go_wp2_with (go_at_call 157; refine (cmp_Compare_rune_calls _ _ _).mono ?_; rintro e w' ⟨rfl, rfl⟩)
          go_ret
          exact ⟨ret_int (by rw [← HI.out, HS.out, hc]; rfl), rfl⟩
        · have hc : cmpI x y = 0 := by simp [cmpI, h]
          have HH := Lib.hid h; clear h
          go_wp2_with (go_at_call 157; refine (cmp_Compare_rune_calls _ _ _).mono ?_; rintro e w' ⟨rfl, rfl⟩)
          go_round
          case rel => exact ⟨k + 1, by omega, by omega, by go_num, Lib.hid (by rw [← HI.out, HS.out, hc]; rfl)⟩
          case measure => simp [intOf]; omega
        · have hc : cmpI x y = 1 := by have : ¬ x < y := by omega
                                       simp [cmpI, h, this]
          go_wp2_with (go_at_call 157; refine (cmp_Compare_rune_calls _ _ _).mono ?_; rintro e w' ⟨rfl, rfl⟩)
          go_ret
          exact ⟨ret_int (by rw [← HI.out, HS.out, hc]; rfl), rfl⟩
      · have HE := Lib.hid (cmpL_end hk hk2 (by omega))
        go_wp2
        go_ret
        exact ⟨ret_int (by rw [← HI.out, HE.out]; unfold cmpI; rw [if_neg (by omega), if_pos (by omega)]), rfl⟩
    · have HE := Lib.hid (cmpL_end hk hk2 (by omega))
      by_cases hlt2 : xs.length < ys.length
      · go_wp2
        go_ret
        exact ⟨ret_int (by rw [← HI.out, HE.out]; unfold cmpI; rw [if_pos (by omega)]), rfl⟩
      · go_wp2
        go_ret
        exact ⟨ret_int (by rw [← HI.out, HE.out]; unfold cmpI; rw [if_neg (by omega), if_neg (by omega)]), rfl⟩

/-- Texts, rune by rune. -/
def cmpS (a b : ByteArray) : Int := cmpL (runes a) (runes b)
set_option maxHeartbeats 1000000 in
theorem letter_Compare_calls (a b : ByteArray) (w : World) (ha : a.size ≤ 70368744177664) (hb : b.size ≤ 70368744177664) :
    Calls Try.prog 134 #[.string a, .string b] w fun e w' => e = .returned (.int .i64 (cmpS a b)) ∧ Below w.heap.size w w' := by
  obtain ⟨A1, c1, w1, e1, r1, b1⟩ := runes_conv w a ha
  obtain ⟨A2, c2, w2, e2, r2, b2⟩ := runes_conv w1 b hb
  have R1 := Lib.hid (Kd.C_below r1 b2); clear r1
  have R2 := Lib.hid r2; clear r2
  have B := Lib.hid (b1.trans (below_down b2 b1.size)); clear b1 b2
  go_enter Try.func134, Try.ntmps134
  go_wp2_with (go_at_call 150; refine (slices_Compare_rune_calls _ _ _ _ _ _ _ R1.out R2.out).mono ?_; rintro e w' ⟨rfl, rfl⟩)
  go_ret
  exact ⟨rfl, B.out⟩
end Go.Proofs.Ytonbnlfijmapfaa
