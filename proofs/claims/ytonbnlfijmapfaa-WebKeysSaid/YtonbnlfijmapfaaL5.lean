/- The reference's Right, Compare of texts; value.thing, Right, and the reference's. No condition but on sizes. -/
import Derived.Test.YtonbnlfijmapfaaL4
namespace Go.Proofs.Ytonbnlfijmapfaa
open Go.RowKit Go.Shelf Go.Proofs.YtonbnlfijmapfaaW.PrintWords
set_option linter.unusedVariables false
set_option linter.unusedSimpArgs false

/-- The rest of a name. -/
def restOk (l : List Int) : Bool := l.all fun r => isLetter r || isDigit r
theorem wrong_rest : ∀ (l : List Int) (n : Nat), 0 < n → wrongFrom l n = !(restOk l && decide (n + l.length ≤ 32))
  | [], n, h => by
    have : (n == 0) = false := by simp; omega
    simp [wrongFrom, restOk, this]
    rw [Bool.eq_iff_iff]; simp
  | r :: t, n, h => by
    have h0 : (n == 0) = false := by simp; omega
    rw [wrongFrom, wrong_rest t (n + 1) (by omega), h0]
    unfold restOk
    rw [List.all_cons]
    cases isLetter r <;> cases isDigit r <;> simp <;> (try congr 1; funext; try simp; try omega)
    all_goals (rw [Bool.eq_iff_iff]; simp; try omega)

theorem right_runes (rs : List Int) : (!wrongFrom rs 0) = (decide (1 ≤ rs.length) && decide (rs.length ≤ 32) && isLetter (rd rs 0) && restOk (rs.drop 1)) := by
  cases rs with
  | nil => simp [wrongFrom]
  | cons r t =>
    rw [wrongFrom, wrong_rest t 1 (by omega)]
    simp [rd]
    cases isLetter r <;> simp
    rw [Bool.eq_iff_iff]; simp
    constructor <;> (rintro ⟨h1, h2⟩; exact ⟨by first | assumption | omega, by first | assumption | omega⟩)

theorem rest_step {l t : List Int} {r : Int} (h : l = r :: t) : (isLetter r = true → restOk l = restOk t) ∧ (48 ≤ r → r ≤ 57 → restOk l = restOk t) ∧ (¬ isLetter r = true → (r < 48 ∨ 57 < r) → restOk l = false) := by
  subst h
  unfold restOk
  rw [List.all_cons]
  refine ⟨fun h => by simp [h], fun h1 h2 => by simp [isDigit, h1, h2], fun h h1 => ?_⟩
  have : isDigit r = false := by
    unfold isDigit
    rcases h1 with h1 | h1
    · have : ¬ 48 ≤ r := by omega
      simp [this]
    · have : ¬ r ≤ 57 := by omega
      simp [this]
  simp [h, this]

set_option maxHeartbeats 2000000 in
theorem ref01_Right_calls (s : ByteArray) (w : World) (hs : s.size ≤ 100000) :
    Calls Try.prog 67 #[.string s] w fun e w' => e = .returned (.bool (nameRight s)) ∧ Below w.heap.size w w' := by
  have HR := Lib.hid (right_runes (runes s))
  have ha : ∀ w, Calls Try.prog 102 #[.string s] w _ := fun w => ref01_Runes_calls s w hs
  have HA := Lib.hid ha; clear ha
  by_cases h1 : 1 ≤ (runes s).length ∧ (runes s).length ≤ 32
  · obtain ⟨h1, h2⟩ := h1
    go_enter Try.func67, Try.ntmps67
    go_wp2_with fail
    refine (HA.out _).mono ?_
    rintro e w1 ⟨⟨v, rfl, hR⟩, hB⟩
    obtain ⟨A, c, rfl, hc, hC⟩ := Kd.R_reads hR
    obtain ⟨ad, rfl, g0⟩ := Kd.at_int hC 0 (by omega) (by omega)
    simp only [Int.toNat_zero, add_zero_] at g0
    have HC := Lib.hid hC; clear hC hR
    have HB := Lib.hid hB; clear hB
    cases hL : isLetter (rd (runes s) 0) with
    | false =>
      go_wp2_with (go_at_call 103; refine (ref01_letter_calls _ _).mono ?_; rintro e w' ⟨rfl, rfl⟩)
      go_ret
      exact ⟨ret_bool (by unfold nameRight; rw [HR.out, hL]; simp), HB.out⟩
    | true =>
      go_wp2_with (go_at_call 103; refine (ref01_letter_calls _ _).mono ?_; rintro e w' ⟨rfl, rfl⟩)
      go_loop [4] (fun i => ∃ k : Nat, 1 ≤ k ∧ k ≤ (runes s).length ∧ i = .int .i64 k ∧ Hid (restOk ((runes s).drop k) = nameRight s)) (fun i => (runes s).length - (intOf i).toNat)
      case atStart => exact ⟨1, by omega, by omega, rfl, Lib.hid (by unfold nameRight; rw [HR.out, hL]; simp [h1, h2])⟩
      case round =>
        obtain ⟨k, hk1, hk, rfl, HI⟩ := hrel
        clear g0 hL
        by_cases hlt : k < (runes s).length
        · obtain ⟨ad', e, g0⟩ := Kd.at_int HC.out (k : Int) (by omega) (by omega)
          obtain rfl : ad = ad' := by injection e
          clear e
          simp only [Int.toNat_natCast] at g0
          have HD := Lib.hid (rest_step (drop_cons (runes s) k 0 hlt))
          have hr : Hid (rd (runes s) (k : Int) = (runes s).getD k 0) := Lib.hid (by simp [rd])
          rw [← hr.out] at HD
          clear hr
          generalize rd (runes s) (k : Int) = y at *
          go_wp2_with (go_at_call 103; refine (ref01_letter_calls _ _).mono ?_; rintro e w' ⟨rfl, rfl⟩)
          all_goals first
            | (go_round
               case rel =>
                 refine ⟨k + 1, by omega, by omega, by go_num, Lib.hid ?_⟩
                 rw [← HI.out]
                 first | exact (HD.out.1 (by assumption)).symm | exact (HD.out.2.1 (by omega) (by omega)).symm
               case measure => simp [intOf]; omega)
            | (go_ret
               refine ⟨ret_bool ?_, HB.out⟩
               rw [← HI.out]
               exact (HD.out.2.2 (by assumption) (by go_tidy; (try simp only [beq_iff_eq] at *); omega)).symm)
        · go_wp2
          go_ret
          refine ⟨ret_bool ?_, HB.out⟩
          rw [← HI.out, List.drop_eq_nil_of_le (by omega)]; rfl
  · go_enter Try.func67, Try.ntmps67
    go_wp2_with fail
    refine (HA.out _).mono ?_
    rintro e w1 ⟨⟨v, rfl, hR⟩, hB⟩
    obtain ⟨A, c, rfl, hc, hC⟩ := Kd.R_reads hR
    have HB := Lib.hid hB; clear hB
    by_cases h2 : (runes s).length < 1
    · go_wp2
      go_ret
      exact ⟨ret_bool (by unfold nameRight; rw [HR.out]; have : ¬ 1 ≤ (runes s).length := by omega
                          simp [this]), HB.out⟩
    · have h3 : 32 < (runes s).length := by omega
      go_wp2
      go_ret
      exact ⟨ret_bool (by unfold nameRight; rw [HR.out]; have : ¬ (runes s).length ≤ 32 := by omega
                          simp [this]), HB.out⟩
end Go.Proofs.Ytonbnlfijmapfaa
