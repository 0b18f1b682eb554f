/- slices.IndexFunc, ContainsFunc at strings, ints and values; letter.Right; value.thing, Right. No condition but on sizes. -/
import Derived.Test.YtonbnlfijmapfaaL2
namespace Go.Proofs.Ytonbnlfijmapfaa
open Go.RowKit Go.Shelf Go.Proofs.YtonbnlfijmapfaaW.PrintWords
set_option linter.unusedVariables false
set_option linter.unusedSimpArgs false

def idxP {α : Type} (p : α → Bool) : List α → Nat → Int
  | [], _ => -1
  | x :: t, k => if p x = true then (k : Int) else idxP p t (k + 1)
theorem idxP_any {α : Type} (p : α → Bool) : ∀ (xs : List α) (k : Nat), decide (0 ≤ idxP p xs k) = xs.any p
  | [], _ => by simp [idxP]
  | x :: t, k => by
    have := idxP_any p t (k + 1)
    by_cases h : p x = true
    · simp [idxP, h]
    · simp [idxP, h, this]

/-- What is asked of a predicate on what a list has. -/
def PredOn {α : Type} (P : Program) (g : Nat) (lb : Array Value) (enc : α → Value) (p : α → Bool) (w : World) (xs : List α) : Prop :=
  ∀ (W : World) (x : α), x ∈ xs → Below w.heap.size w W → Calls P g (#[enc x] ++ lb) W fun e w' => e = .returned (.bool (p x)) ∧ Below W.heap.size W w'


set_option maxHeartbeats 1000000 in
theorem IndexFunc_string_calls (g : Nat) (lb : Array Value) (eg : ∀ args w, (callFunc g args).run Try.prog w = .ok (.enter g args) w) (p : ByteArray → Bool) (A : Option Addr) (c : Nat) (xs : List ByteArray) (w : World)
    (h : (Kd.string).C w A xs.length xs) (hp : PredOn Try.prog g lb (.string) p w xs) :
    Calls Try.prog 130 #[.slice A xs.length c, .func (.func g) #[] lb] w fun e w' => e = .returned (.int .i64 (idxP p xs 0)) ∧ Below w.heap.size w w' := by
  have hm := Kd.C_max h
  have HP := Lib.hid hp; clear hp
  have HX := Lib.hid h; clear h
  go_enter Try.func130, Try.ntmps130
  go_wp2
  go_loopw [5, 8] (fun _ s8 wr => ∃ k : Nat, k ≤ xs.length ∧ s8 = .int .i64 k ∧ Hid (Below w.heap.size w wr) ∧ Hid (idxP p (xs.drop k) k = idxP p xs 0)) (fun _ s8 _ => xs.length - (intOf s8).toNat)
  case atStart => exact ⟨0, Nat.zero_le _, rfl, Lib.hid (Below.refl _ w), Lib.hid rfl⟩
  case round =>
    obtain ⟨k, hk, rfl, HB, HI⟩ := hrel
    by_cases hlt : k < xs.length
    · have hlt2 : (k : Int) < (xs.length : Int) := by omega
      obtain ⟨ad, rfl, g0⟩ := Kd.at_string (Kd.C_below HX.out HB.out) (k : Int) (by omega) (by omega)
      simp only [Int.toNat_natCast] at g0
      have hcall := HP.out wr (rdOf ByteArray.empty xs (k : Int)) (by simp [rd, rdOf, List.getD_eq_getElem?_getD, List.getElem?_eq_getElem hlt]) HB.out
      have HD := Lib.hid (drop_cons xs k ByteArray.empty hlt)
      have hr : Hid (rdOf ByteArray.empty xs (k : Int) = xs.getD k ByteArray.empty) := Lib.hid (by simp [rd, rdOf])
      generalize rdOf ByteArray.empty xs (k : Int) = y at *
      cases hq : p y with
      | true =>
        rw [hq] at hcall
        go_wp2_with (go_at_fn g; refine hcall.mono ?_; rintro e w' ⟨rfl, hb'⟩)
        go_ret
        refine ⟨ret_int ?_, HB.out.trans (below_down hb' HB.out.size)⟩
        have := HI.out; rw [HD.out, ← hr.out] at this
        rw [← this]; simp [idxP, hq]
      | false =>
        rw [hq] at hcall
        go_wp2_with (go_at_fn g; refine hcall.mono ?_; rintro e w' ⟨rfl, hb'⟩)
        go_roundw
        case rel =>
          refine ⟨k + 1, by omega, by go_num, Lib.hid (HB.out.trans (below_down hb' HB.out.size)), Lib.hid ?_⟩
          have := HI.out; rw [HD.out, ← hr.out] at this
          rw [← this]; simp [idxP, hq]
        case measure => simp [intOf]; omega
    · have hlt2 : ¬ (k : Int) < (xs.length : Int) := by omega
      go_wp2
      go_ret
      refine ⟨ret_int ?_, HB.out⟩
      have := HI.out; rw [List.drop_eq_nil_of_le (by omega)] at this
      rw [← this]; rfl

set_option maxHeartbeats 1000000 in
theorem ContainsFunc_string_calls (g : Nat) (lb : Array Value) (eg : ∀ args w, (callFunc g args).run Try.prog w = .ok (.enter g args) w) (p : ByteArray → Bool) (A : Option Addr) (c : Nat) (xs : List ByteArray) (w : World)
    (h : (Kd.string).C w A xs.length xs) (hp : PredOn Try.prog g lb (.string) p w xs) :
    Calls Try.prog 114 #[.slice A xs.length c, .func (.func g) #[] lb] w fun e w' => e = .returned (.bool (xs.any p)) ∧ Below w.heap.size w w' := by
  have HP := Lib.hid hp; clear hp
  have HX := Lib.hid h; clear h
  go_enter Try.func114, Try.ntmps114
  go_wp2_with (go_at_call 130; refine (IndexFunc_string_calls g lb eg p A c xs w HX.out HP.out).mono ?_; rintro e w' ⟨rfl, hb'⟩)
  go_ret
  exact ⟨ret_bool (idxP_any p xs 0), hb'⟩

set_option maxHeartbeats 1000000 in
theorem IndexFunc_int_calls (g : Nat) (lb : Array Value) (eg : ∀ args w, (callFunc g args).run Try.prog w = .ok (.enter g args) w) (p : Int → Bool) (A : Option Addr) (c : Nat) (xs : List Int) (w : World)
    (h : (Kd.int .i64).C w A xs.length xs) (hp : PredOn Try.prog g lb (.int .i64) p w xs) :
    Calls Try.prog 113 #[.slice A xs.length c, .func (.func g) #[] lb] w fun e w' => e = .returned (.int .i64 (idxP p xs 0)) ∧ Below w.heap.size w w' := by
  have hm := Kd.C_max h
  have HP := Lib.hid hp; clear hp
  have HX := Lib.hid h; clear h
  go_enter Try.func113, Try.ntmps113
  go_wp2
  go_loopw [5, 8] (fun _ s8 wr => ∃ k : Nat, k ≤ xs.length ∧ s8 = .int .i64 k ∧ Hid (Below w.heap.size w wr) ∧ Hid (idxP p (xs.drop k) k = idxP p xs 0)) (fun _ s8 _ => xs.length - (intOf s8).toNat)
  case atStart => exact ⟨0, Nat.zero_le _, rfl, Lib.hid (Below.refl _ w), Lib.hid rfl⟩
  case round =>
    obtain ⟨k, hk, rfl, HB, HI⟩ := hrel
    by_cases hlt : k < xs.length
    · have hlt2 : (k : Int) < (xs.length : Int) := by omega
      obtain ⟨ad, rfl, g0⟩ := Kd.at_int (Kd.C_below HX.out HB.out) (k : Int) (by omega) (by omega)
      simp only [Int.toNat_natCast] at g0
      have hcall := HP.out wr (rd xs (k : Int)) (by simp [rd, rdOf, List.getD_eq_getElem?_getD, List.getElem?_eq_getElem hlt]) HB.out
      have HD := Lib.hid (drop_cons xs k 0 hlt)
      have hr : Hid (rd xs (k : Int) = xs.getD k 0) := Lib.hid (by simp [rd, rdOf])
      generalize rd xs (k : Int) = y at *
      cases hq : p y with
      | true =>
        rw [hq] at hcall
        go_wp2_with (go_at_fn g; refine hcall.mono ?_; rintro e w' ⟨rfl, hb'⟩)
        go_ret
        refine ⟨ret_int ?_, HB.out.trans (below_down hb' HB.out.size)⟩
        have := HI.out; rw [HD.out, ← hr.out] at this
        rw [← this]; simp [idxP, hq]
      | false =>
        rw [hq] at hcall
        go_wp2_with (go_at_fn g; refine hcall.mono ?_; rintro e w' ⟨rfl, hb'⟩)
        go_roundw
        case rel =>
          refine ⟨k + 1, by omega, by go_num, Lib.hid (HB.out.trans (below_down hb' HB.out.size)), Lib.hid ?_⟩
          have := HI.out; rw [HD.out, ← hr.out] at this
          rw [← this]; simp [idxP, hq]
        case measure => simp [intOf]; omega
    · have hlt2 : ¬ (k : Int) < (xs.length : Int) := by omega
      go_wp2
      go_ret
      refine ⟨ret_int ?_, HB.out⟩
      have := HI.out; rw [List.drop_eq_nil_of_le (by omega)] at this
      rw [← this]; rfl

set_option maxHeartbeats 1000000 in
theorem ContainsFunc_int_calls (g : Nat) (lb : Array Value) (eg : ∀ args w, (callFunc g args).run Try.prog w = .ok (.enter g args) w) (p : Int → Bool) (A : Option Addr) (c : Nat) (xs : List Int) (w : World)
    (h : (Kd.int .i64).C w A xs.length xs) (hp : PredOn Try.prog g lb (.int .i64) p w xs) :
    Calls Try.prog 83 #[.slice A xs.length c, .func (.func g) #[] lb] w fun e w' => e = .returned (.bool (xs.any p)) ∧ Below w.heap.size w w' := by
  have HP := Lib.hid hp; clear hp
  have HX := Lib.hid h; clear h
  go_enter Try.func83, Try.ntmps83
  go_wp2_with (go_at_call 113; refine (IndexFunc_int_calls g lb eg p A c xs w HX.out HP.out).mono ?_; rintro e w' ⟨rfl, hb'⟩)
  go_ret
  exact ⟨ret_bool (idxP_any p xs 0), hb'⟩


set_option maxHeartbeats 1000000 in
theorem letter_Right_calls (A : Option Addr) (c : Nat) (xs : List ByteArray) (w : World) (h : Kd.string.C w A xs.length xs) (hs : ∀ x ∈ xs, x.size ≤ 140737488355328) :
    Calls Try.prog 85 #[.slice A xs.length c] w fun e w' => e = .returned (.bool (!xs.any fun s => wrongFrom (runes s) 0)) ∧ Below w.heap.size w w' := by
  have HP : Hid (PredOn Try.prog 115 #[] .string (fun s => wrongFrom (runes s) 0) w xs) := Lib.hid fun W x hx hB => (letter_wrong_calls x W (hs x hx)).mono fun e w' ⟨he, pos, hw⟩ => ⟨he, by subst hw; exact (Below.refl _ _).alloc (Nat.le_refl _) _⟩
  have HX := Lib.hid h; clear h
  go_enter Try.func85, Try.ntmps85
  go_wp2_with (go_at_call 114; refine (ContainsFunc_string_calls 115 #[] IdxFunc_enters_wrong _ A c xs w HX.out HP.out).mono ?_; rintro e w' ⟨rfl, hb'⟩)
  go_ret
  exact ⟨rfl, hb'⟩

theorem letter_Right_one (A : Option Addr) (c : Nat) (s : ByteArray) (w : World) (h : Kd.string.C w A [s].length [s]) (hs : s.size ≤ 140737488355328) (b : Bool) (hb : nameRight s = b) :
    Calls Try.prog 85 #[.slice A 1 c] w fun e w' => e = .returned (.bool b) ∧ Below w.heap.size w w' :=
  (letter_Right_calls A c [s] w h (by simpa using hs)).mono fun e w' ⟨he, hw⟩ => ⟨by rw [he, ← hb]; simp [nameRight], hw⟩
end Go.Proofs.Ytonbnlfijmapfaa
