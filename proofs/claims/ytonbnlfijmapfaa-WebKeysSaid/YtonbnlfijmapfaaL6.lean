/- value.thing, Right, and the reference's. No condition but on sizes. -/
import Derived.Test.YtonbnlfijmapfaaL3
import Derived.WideLaws
namespace Go.Proofs.Ytonbnlfijmapfaa
open Go.RowKit Go.Shelf Go.Proofs.YtonbnlfijmapfaaW.PrintWords
set_option linter.unusedVariables false
set_option linter.unusedSimpArgs false

/-- Is a value right? -/
def valOk (k n : Int) (s : ByteArray) : Bool := (k == 1 && s.toList.isEmpty) || (k == 2 && n == 0 && decide ((s.size : Int) ≤ 200))
def thingV (k n : Int) (s : ByteArray) : Value := if k = 1 then (if s.toList.isEmpty = true then .iface 3 (.int .i64 n) else .nilIface) else if k = 2 ∧ n = 0 ∧ (s.size : Int) ≤ 200 then .iface 9 (.string s) else .nilIface
theorem thingV_cases (k n : Int) (s : ByteArray) : (valOk k n s = false ∧ thingV k n s = .nilIface) ∨ (valOk k n s = true ∧ k = 1 ∧ s.toList.isEmpty = true ∧ thingV k n s = .iface 3 (.int .i64 n)) ∨
    (valOk k n s = true ∧ k = 2 ∧ n = 0 ∧ (s.size : Int) ≤ 200 ∧ thingV k n s = .iface 9 (.string s)) := by
  unfold valOk thingV
  by_cases h1 : k = 1
  · subst h1
    cases h2 : s.toList.isEmpty <;> simp
  · by_cases h2 : k = 2
    · subst h2
      by_cases h3 : n = 0
      · by_cases h4 : (s.size : Int) ≤ 200
        · simp [h3, h4]
        · simp [h3, h4]
      · simp [h3]
    · simp [h1, h2]

set_option maxHeartbeats 2000000 in
theorem value_thing_calls (k n : Int) (s : ByteArray) (w : World) :
    Calls Try.prog 105 #[.agg #[.int .i64 k, .int .i64 n, .string s]] w fun e w' => e = .returned (thingV k n s) ∧ Below w.heap.size w w' := by
  go_enter Try.func105, Try.ntmps105
  go_wp2
  all_goals
    go_ret
    refine ⟨congrArg Ending.returned ?_, (Below.refl _ _).alloc (Nat.le_refl _) _⟩
    go_tidy
    unfold thingV
    first | (simp_all; done) | (simp_all; omega)

set_option maxHeartbeats 2000000 in
theorem value_Right1_calls (k n : Int) (s : ByteArray) (w : World) :
    Calls Try.prog 133 #[.agg #[.int .i64 k, .int .i64 n, .string s]] w fun e w' => e = .returned (.bool (!valOk k n s)) ∧ Below w.heap.size w w' := by
  have HT := Lib.hid (thingV_cases k n s)
  go_enter Try.func133, Try.ntmps133
  go_wp2_with fail
  refine (value_thing_calls _ _ _ _).mono ?_
  rintro e w1 ⟨rfl, hB⟩
  have HB := Lib.hid (((Below.refl w.heap.size w).alloc (Nat.le_refl _) _).trans (below_down hB (by simp))); clear hB
  rcases HT.out with ⟨h, h2⟩ | ⟨h, h1, h3, h2⟩ | ⟨h, h1, h3, h4, h2⟩
  all_goals
    rw [h2]
    go_wp2
    go_ret
    exact ⟨ret_bool (by rw [h]; rfl), HB.out⟩

set_option maxHeartbeats 2000000 in
theorem ref02_Right_calls (k n : Int) (s : ByteArray) (w : World) :
    Calls Try.prog 22 #[.agg #[.int .i64 k, .int .i64 n, .string s]] w fun e w' => e = .returned (.bool (valOk k n s)) ∧ Below w.heap.size w w' := by
  go_enter Try.func22, Try.ntmps22
  go_wp2
  all_goals
    go_ret
    refine ⟨ret_bool ?_, (Below.refl _ _).alloc (Nat.le_refl _) _⟩
    go_tidy
    unfold valOk
    simp_all

def SValue.ok (v : SValue) : Bool := valOk v.f0 v.f1 v.f2
abbrev SValue.val (v : SValue) : Value := .agg #[.int .i64 v.f0, .int .i64 v.f1, .string v.f2]

set_option maxHeartbeats 1000000 in
theorem IndexFunc_Value_calls (g : Nat) (lb : Array Value) (eg : ∀ args w, (callFunc g args).run Try.prog w = .ok (.enter g args) w) (p : SValue → Bool) (A : Option Addr) (c : Nat) (xs : List SValue) (w : World)
    (h : kValue.C w A xs.length xs) (hp : PredOn Try.prog g lb SValue.val p w xs) :
    Calls Try.prog 149 #[.slice A xs.length c, .func (.func g) #[] lb] w fun e w' => e = .returned (.int .i64 (idxP p xs 0)) ∧ Below w.heap.size w w' := by
  have hm := Kd.C_max h
  have HP := Lib.hid hp; clear hp
  have HX := Lib.hid h; clear h
  go_enter Try.func149, Try.ntmps149
  go_wp2
  go_loopw [5, 8] (fun _ s8 wr => ∃ k : Nat, k ≤ xs.length ∧ s8 = .int .i64 k ∧ Hid (Below w.heap.size w wr) ∧ Hid (idxP p (xs.drop k) k = idxP p xs 0)) (fun _ s8 _ => xs.length - (intOf s8).toNat)
  case atStart => exact ⟨0, Nat.zero_le _, rfl, Lib.hid (Below.refl _ w), Lib.hid rfl⟩
  case round =>
    obtain ⟨k, hk, rfl, HB, HI⟩ := hrel
    by_cases hlt : k < xs.length
    · have hlt2 : (k : Int) < (xs.length : Int) := by omega
      obtain ⟨ad, rfl, g0, g1, g2⟩ := at_Value (Kd.C_below HX.out HB.out) (k : Int) (by omega) (by omega)
      simp only [Int.toNat_natCast] at g0 g1 g2
      have hcall := HP.out wr (rd_Value xs (k : Int)) (by simp [rd_Value, List.getD_eq_getElem?_getD, List.getElem?_eq_getElem hlt]) HB.out
      have HD := Lib.hid (drop_cons xs k zValue hlt)
      have hr : Hid (rd_Value xs (k : Int) = xs.getD k zValue) := Lib.hid (by simp [rd_Value])
      generalize rd_Value xs (k : Int) = y at *
      obtain ⟨y0, y1, y2⟩ := y
      simp only [SValue.val] at *
      cases hq : p ⟨y0, y1, y2⟩ with
      | true =>
        rw [hq] at hcall
        go_wp2_with (go_at_fn g; refine hcall.mono ?_; rintro e w' ⟨rfl, hb'⟩)
        go_ret
        refine ⟨ret_int ?_, HB.out.trans (below_down hb' HB.out.size)⟩
        have := HI.out; rw [HD.out, ← hr.out] at this
        rw [← this]; simp [idxP, hq]
      | false =>
        rw [hq] at hcall
        go_wp2_with (go_at_fn g; refine hcall.mono ?_; rintro e w' ⟨rfl, hb'⟩)
        go_roundw
        case rel =>
          refine ⟨k + 1, by omega, by go_num, Lib.hid (HB.out.trans (below_down hb' HB.out.size)), Lib.hid ?_⟩
          have := HI.out; rw [HD.out, ← hr.out] at this
          rw [← this]; simp [idxP, hq]
        case measure => simp [intOf]; omega
    · have hlt2 : ¬ (k : Int) < (xs.length : Int) := by omega
      go_wp2
      go_ret
      refine ⟨ret_int ?_, HB.out⟩
      have := HI.out; rw [List.drop_eq_nil_of_le (by omega)] at this
      rw [← this]; rfl

set_option maxHeartbeats 1000000 in
theorem ContainsFunc_Value_calls (g : Nat) (lb : Array Value) (eg : ∀ args w, (callFunc g args).run Try.prog w = .ok (.enter g args) w) (p : SValue → Bool) (A : Option Addr) (c : Nat) (xs : List SValue) (w : World)
    (h : kValue.C w A xs.length xs) (hp : PredOn Try.prog g lb SValue.val p w xs) :
    Calls Try.prog 132 #[.slice A xs.length c, .func (.func g) #[] lb] w fun e w' => e = .returned (.bool (xs.any p)) ∧ Below w.heap.size w w' := by
  have HP := Lib.hid hp; clear hp
  have HX := Lib.hid h; clear h
  go_enter Try.func132, Try.ntmps132
  go_wp2_with (go_at_call 149; refine (IndexFunc_Value_calls g lb eg p A c xs w HX.out HP.out).mono ?_; rintro e w' ⟨rfl, hb'⟩)
  go_ret
  exact ⟨ret_bool (idxP_any p xs 0), hb'⟩

theorem enters_Right1 : ∀ args w, (callFunc 133 args).run Try.prog w = .ok (.enter 133 args) w := enters_of Try.func133 (by kernel_rfl) rfl

set_option maxHeartbeats 1000000 in
theorem value_Right_calls (A : Option Addr) (c : Nat) (xs : List SValue) (w : World) (h : kValue.C w A xs.length xs) :
    Calls Try.prog 116 #[.slice A xs.length c] w fun e w' => e = .returned (.bool (!xs.any fun v => !v.ok)) ∧ Below w.heap.size w w' := by
  have HP : Hid (PredOn Try.prog 133 #[] SValue.val (fun v => !v.ok) w xs) := Lib.hid fun W x hx hB => value_Right1_calls x.f0 x.f1 x.f2 W
  have HX := Lib.hid h; clear h
  go_enter Try.func116, Try.ntmps116
  go_wp2_with (go_at_call 132; refine (ContainsFunc_Value_calls 133 #[] enters_Right1 _ A c xs w HX.out HP.out).mono ?_; rintro e w' ⟨rfl, hb'⟩)
  go_ret
  exact ⟨rfl, hb'⟩

theorem value_Right_one (A : Option Addr) (c : Nat) (v : SValue) (w : World) (h : kValue.C w A [v].length [v]) (b : Bool) (hb : v.ok = b) :
    Calls Try.prog 116 #[.slice A 1 c] w fun e w' => e = .returned (.bool b) ∧ Below w.heap.size w w' :=
  (value_Right_calls A c [v] w h).mono fun e w' ⟨he, hw⟩ => ⟨by rw [he, ← hb]; simp, hw⟩
end Go.Proofs.Ytonbnlfijmapfaa
