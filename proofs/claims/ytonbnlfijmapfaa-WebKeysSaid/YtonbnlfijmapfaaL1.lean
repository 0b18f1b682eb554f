/- Letters, names: what letter.letter, letter.wrong, letter.Right and the reference's Runes, letter, Right answer. No condition but on sizes. -/
import Derived.Test.YtonbnlfijmapfaaK2
import Derived.Laws.RangeAny
import Derived.Lib.RuneCount
import Derived.Shelf.Abstract
namespace Go.Proofs.Ytonbnlfijmapfaa
open Go.RowKit Go.Shelf Go.Proofs.YtonbnlfijmapfaaW.PrintWords
set_option linter.unusedVariables false
set_option linter.unusedSimpArgs false

def isLetter (r : Int) : Bool := (decide (97 ≤ r) && decide (r ≤ 122)) || (decide (65 ≤ r) && decide (r ≤ 90)) || (r == 95) || (decide (192 ≤ r) && decide (r ≤ 591) && r != 215 && r != 247)
def isDigit (r : Int) : Bool := decide (48 ≤ r) && decide (r ≤ 57)

set_option maxHeartbeats 1000000 in
theorem letter_letter_calls (r : Int) (w : World) :
    Calls Try.prog 131 #[.int .i32 r] w fun e w' => e = .returned (.bool (isLetter r)) ∧ w = w' := by
  go_enter Try.func131, Try.ntmps131
  go_wp2
  all_goals (go_ret; refine ⟨ret_bool ?_, rfl⟩; go_tidy; (try simp only [beq_iff_eq, beq_eq_false_iff_ne, ne_eq] at *); rw [Bool.eq_iff_iff]; first | (simp [isLetter]; done) | (simp [isLetter]; omega))

set_option maxHeartbeats 1000000 in
theorem ref01_letter_calls (r : Int) (w : World) :
    Calls Try.prog 103 #[.int .i32 r] w fun e w' => e = .returned (.bool (isLetter r)) ∧ w = w' := by
  go_enter Try.func103, Try.ntmps103
  go_wp2
  all_goals (go_ret; refine ⟨ret_bool ?_, rfl⟩; go_tidy; (try simp only [beq_iff_eq, beq_eq_false_iff_ne, ne_eq] at *); rw [Bool.eq_iff_iff]; first | (simp [isLetter]; done) | (simp [isLetter]; omega))

/-! ### runes -/
/-- The runes from a place on. -/
def runesFrom (s : ByteArray) : Nat → Nat → List Int
  | 0, _ => []
  | f + 1, pos => if pos < s.size then ((Utf8.decode s pos).1 : Int) :: runesFrom s f (pos + (Utf8.decode s pos).2) else []
def runes (s : ByteArray) : List Int := runesFrom s s.size 0
theorem runesFrom_end (s : ByteArray) (f pos : Nat) (h : ¬ pos < s.size) : runesFrom s f pos = [] := by
  cases f with
  | zero => rfl
  | succ f => simp [runesFrom, h]
theorem runesFrom_length (s : ByteArray) : ∀ f pos, (runesFrom s f pos).length ≤ f
  | 0, _ => by simp [runesFrom]
  | f + 1, pos => by
    have := runesFrom_length s f (pos + (Utf8.decode s pos).2)
    unfold runesFrom; split <;> simp; omega
theorem runes_length (s : ByteArray) : (runes s).length ≤ s.size := runesFrom_length _ _ _

/-- Not a name, counted from n on. -/
def wrongFrom : List Int → Nat → Bool
  | [], n => n == 0 || decide (32 < n)
  | r :: t, n => (!isLetter r && (n == 0 || !isDigit r)) || wrongFrom t (n + 1)
def nameRight (s : ByteArray) : Bool := !wrongFrom (runes s) 0

theorem wrong_step {r : Int} {t : List Int} {n : Nat} {W : Bool} (h : wrongFrom (r :: t) n = W) :
    (isLetter r = true → wrongFrom t (n + 1) = W) ∧ (¬ isLetter r = true → n ≠ 0 → 48 ≤ r → r ≤ 57 → wrongFrom t (n + 1) = W) ∧ (¬ isLetter r = true → (n = 0 ∨ r < 48 ∨ 57 < r) → true = W) := by
  subst h
  refine ⟨fun h => by simp [wrongFrom, h], fun h h0 h1 h2 => by simp [wrongFrom, h0, isDigit, h1, h2], fun h h1 => ?_⟩
  have : (n == 0 || !isDigit r) = true := by
    unfold isDigit
    rcases h1 with h1 | h1 | h1
    · simp [h1]
    · have : ¬ 48 ≤ r := by omega
      simp [this]
    · have : ¬ r ≤ 57 := by omega
      simp [this]
  simp [wrongFrom, h, this]

set_option maxHeartbeats 1000000 in
set_option maxRecDepth 100000 in
theorem letter_wrong_calls (s : ByteArray) (w : World) (hs : s.size ≤ 140737488355328) :
    Calls Try.prog 115 #[.string s] w fun e w' => e = .returned (.bool (wrongFrom (runes s) 0)) ∧ ∃ pos, w' = w.iter s pos := by
  go_enter Try.func115, Try.ntmps115
  go_wp2
  go_loopw [3] (fun n w' => ∃ (pos b : Nat) (acc : Nat), w' = w.iter s pos ∧ n = .int .i64 acc ∧ Aside0 (wrongFrom (runesFrom s b pos) acc = wrongFrom (runes s) 0) ∧ s.size ≤ pos + b ∧ acc ≤ pos) (fun _ w' => s.size - w'.iterPos w.heap.size)
  case atStart => exact ⟨0, s.size, 0, rfl, rfl, ⟨rfl⟩, by omega, Nat.le_refl _⟩
  case round =>
    obtain ⟨pos, b, acc, rfl, rfl, hc, hb, ha⟩ := hrel
    by_cases hp : pos < s.size
    · have hnx : ∀ ty, (Instr.next (.pointer (some ⟨w.heap.size, 0, none⟩)) true ty).run Try.prog (w.iter s pos) = _ := fun ty => run_next_any w s pos ty hp
      have hwd := Lib.decode_width_pos s pos hp
      obtain ⟨b, rfl⟩ : ∃ b', b = b' + 1 := ⟨b - 1, by omega⟩
      have HS := Lib.hid (wrong_step (show wrongFrom (((Utf8.decode s pos).1 : Int) :: runesFrom s b (pos + (Utf8.decode s pos).2)) acc = wrongFrom (runes s) 0 from by have := hc.out; rw [runesFrom, if_pos hp] at this; exact this))
      clear hc
      go_wp2_with (go_at_call 131; refine (letter_letter_calls _ _).mono ?_; rintro e w' ⟨rfl, rfl⟩)
      all_goals first
        | (go_roundw
           case rel =>
             refine ⟨_, b, acc + 1, rfl, by go_num, ⟨?_⟩, by omega, by omega⟩
             first | exact HS.out.1 (by assumption) | exact HS.out.2.1 (by assumption) (by omega) (by omega) (by omega)
           case measure => simp; omega)
        | (go_ret
           refine ⟨ret_bool (HS.out.2.2 (by assumption) (by go_tidy; (try simp only [beq_iff_eq] at *); omega)), _, rfl⟩)
    · have hnx : ∀ ty, (Instr.next (.pointer (some ⟨w.heap.size, 0, none⟩)) true ty).run Try.prog (w.iter s pos) = _ := fun ty => run_next_end w s pos ty hp
      have HS := Lib.hid (show (acc == 0 || decide (32 < acc)) = wrongFrom (runes s) 0 from by have := hc.out; rw [runesFrom_end s b pos hp] at this; exact this)
      clear hc
      go_wp2
      all_goals
        go_ret
        refine ⟨ret_bool ?_, _, rfl⟩
        rw [← HS.out, Bool.eq_iff_iff]
        simp
        omega

theorem IdxFunc_enters_wrong : ∀ args w, (callFunc 115 args).run Try.prog w = .ok (.enter 115 args) w := enters_of Try.func115 (by kernel_rfl) rfl

end Go.Proofs.Ytonbnlfijmapfaa
