/- Texts of this proof, joined: L5, L6, L7, L8, P0, L9, L10, L11. No condition. -/
import Derived.Test.YtonbnlfijmapfaaI1
import Derived.WideLaws
import Derived.Laws.BitsAllLaws
import Derived.Laws.Shifts
/- The reference's Right, Compare of texts; value.thing, Right, and the reference's. No condition but on sizes. -/
namespace Go.Proofs.Ytonbnlfijmapfaa
open Go.RowKit Go.Shelf Go.Proofs.YtonbnlfijmapfaaW.PrintWords
set_option linter.unusedVariables false
set_option linter.unusedSimpArgs false

/-- The rest of a name. -/
def restOk (l : List Int) : Bool := l.all fun r => isLetter r || isDigit r
theorem wrong_rest : ∀ (l : List Int) (n : Nat), 0 < n → wrongFrom l n = !(restOk l && decide (n + l.length ≤ 32))
  | [], n, h => by
    have : (n == 0) = false := by simp; omega
    simp [wrongFrom, restOk, this]
    rw [Bool.eq_iff_iff]; simp
  | r :: t, n, h => by
    have h0 : (n == 0) = false := by simp; omega
    rw [wrongFrom, wrong_rest t (n + 1) (by omega), h0]
    unfold restOk
    rw [List.all_cons]
    cases isLetter r <;> cases isDigit r <;> simp <;> (try congr 1; funext; try simp; try omega)
    all_goals (rw [Bool.eq_iff_iff]; simp; try omega)

theorem right_runes (rs : List Int) : (!wrongFrom rs 0) = (decide (1 ≤ rs.length) && decide (rs.length ≤ 32) && isLetter (rd rs 0) && restOk (rs.drop 1)) := by
  cases rs with
  | nil => simp [wrongFrom]
  | cons r t =>
    rw [wrongFrom, wrong_rest t 1 (by omega)]
    simp [rd]
    cases isLetter r <;> simp
    rw [Bool.eq_iff_iff]; simp
    constructor <;> (rintro ⟨h1, h2⟩; exact ⟨by first | assumption | omega, by first | assumption | omega⟩)

theorem rest_step {l t : List Int} {r : Int} (h : l = r :: t) : (isLetter r = true → restOk l = restOk t) ∧ (48 ≤ r → r ≤ 57 → restOk l = restOk t) ∧ (¬ isLetter r = true → (r < 48 ∨ 57 < r) → restOk l = false) := by
  subst h
  unfold restOk
  rw [List.all_cons]
  refine ⟨fun h => by simp [h], fun h1 h2 => by simp [isDigit, h1, h2], fun h h1 => ?_⟩
  have : isDigit r = false := by
    unfold isDigit
    rcases h1 with h1 | h1
    · have : ¬ 48 ≤ r := by omega
      simp [this]
    · have : ¬ r ≤ 57 := by omega
      simp [this]
  simp [h, this]

set_option maxHeartbeats 2000000 in
theorem ref01_Right_calls (s : ByteArray) (w : World) (hs : s.size ≤ 2000000) :
    Calls Try.prog 67 #[.string s] w fun e w' => e = .returned (.bool (nameRight s)) ∧ Below w.heap.size w w' := by
  have HR := Lib.hid (right_runes (runes s))
  have ha : ∀ w, Calls Try.prog 102 #[.string s] w _ := fun w => ref01_Runes_calls s w hs
  have HA := Lib.hid ha; clear ha
  by_cases h1 : 1 ≤ (runes s).length ∧ (runes s).length ≤ 32
  · obtain ⟨h1, h2⟩ := h1
    go_enter Try.func67, Try.ntmps67
    go_wp2_with fail
    refine (HA.out _).mono ?_
    rintro e w1 ⟨⟨v, rfl, hR⟩, hB⟩
    obtain ⟨A, c, rfl, hc, hC⟩ := Kd.R_reads hR
    obtain ⟨ad, rfl, g0⟩ := Kd.at_int hC 0 (by omega) (by omega)
    simp only [Int.toNat_zero, add_zero_] at g0
    have HC := Lib.hid hC; clear hC hR
    have HB := Lib.hid hB; clear hB
    cases hL : isLetter (rd (runes s) 0) with
    | false =>
      go_wp2_with (go_at_call 103; refine (ref01_letter_calls _ _).mono ?_; rintro e w' ⟨rfl, rfl⟩)
      go_ret
      exact ⟨ret_bool (by unfold nameRight; rw [HR.out, hL]; simp), HB.out⟩
    | true =>
      go_wp2_with (go_at_call 103; refine (ref01_letter_calls _ _).mono ?_; rintro e w' ⟨rfl, rfl⟩)
      go_loop [4] (fun i => ∃ k : Nat, 1 ≤ k ∧ k ≤ (runes s).length ∧ i = .int .i64 k ∧ Hid (restOk ((runes s).drop k) = nameRight s)) (fun i => (runes s).length - (intOf i).toNat)
      case atStart => exact ⟨1, by omega, by omega, rfl, Lib.hid (by unfold nameRight; rw [HR.out, hL]; simp [h1, h2])⟩
      case round =>
        obtain ⟨k, hk1, hk, rfl, HI⟩ := hrel
        clear g0 hL
        by_cases hlt : k < (runes s).length
        · obtain ⟨ad', e, g0⟩ := Kd.at_int HC.out (k : Int) (by omega) (by omega)
          obtain rfl : ad = ad' := by injection e
          clear e
          simp only [Int.toNat_natCast] at g0
          have HD := Lib.hid (rest_step (drop_cons (runes s) k 0 hlt))
          have hr : Hid (rd (runes s) (k : Int) = (runes s).getD k 0) := Lib.hid (by simp [rd])
          rw [← hr.out] at HD
          clear hr
          generalize rd (runes s) (k : Int) = y at *
          go_wp2_with (go_at_call 103; refine (ref01_letter_calls _ _).mono ?_; rintro e w' ⟨rfl, rfl⟩)
          all_goals first
            | (go_round
               case rel =>
                 refine ⟨k + 1, by omega, by omega, by go_num, Lib.hid ?_⟩
                 rw [← HI.out]
                 first | exact (HD.out.1 (by assumption)).symm | exact (HD.out.2.1 (by omega) (by omega)).symm
               case measure => simp [intOf]; omega)
            | (go_ret
               refine ⟨ret_bool ?_, HB.out⟩
               rw [← HI.out]
               exact (HD.out.2.2 (by assumption) (by go_tidy; (try simp only [beq_iff_eq] at *); omega)).symm)
        · go_wp2
          go_ret
          refine ⟨ret_bool ?_, HB.out⟩
          rw [← HI.out, List.drop_eq_nil_of_le (by omega)]; rfl
  · go_enter Try.func67, Try.ntmps67
    go_wp2_with fail
    refine (HA.out _).mono ?_
    rintro e w1 ⟨⟨v, rfl, hR⟩, hB⟩
    obtain ⟨A, c, rfl, hc, hC⟩ := Kd.R_reads hR
    have HB := Lib.hid hB; clear hB
    by_cases h2 : (runes s).length < 1
    · go_wp2
      go_ret
      exact ⟨ret_bool (by unfold nameRight; rw [HR.out]; have : ¬ 1 ≤ (runes s).length := by omega
                          simp [this]), HB.out⟩
    · have h3 : 32 < (runes s).length := by omega
      go_wp2
      go_ret
      exact ⟨ret_bool (by unfold nameRight; rw [HR.out]; have : ¬ (runes s).length ≤ 32 := by omega
                          simp [this]), HB.out⟩
end Go.Proofs.Ytonbnlfijmapfaa
/- value.thing, Right, and the reference's. No condition but on sizes. -/
namespace Go.Proofs.Ytonbnlfijmapfaa
open Go.RowKit Go.Shelf Go.Proofs.YtonbnlfijmapfaaW.PrintWords
set_option linter.unusedVariables false
set_option linter.unusedSimpArgs false

/-- Is a value right? -/
def valOk (k n : Int) (s : ByteArray) : Bool := (k == 1 && s.toList.isEmpty) || (k == 2 && n == 0 && decide ((s.size : Int) ≤ 200))
def thingV (k n : Int) (s : ByteArray) : Value := if k = 1 then (if s.toList.isEmpty = true then .iface 3 (.int .i64 n) else .nilIface) else if k = 2 ∧ n = 0 ∧ (s.size : Int) ≤ 200 then .iface 9 (.string s) else .nilIface
theorem thingV_cases (k n : Int) (s : ByteArray) : (valOk k n s = false ∧ thingV k n s = .nilIface) ∨ (valOk k n s = true ∧ k = 1 ∧ s.toList.isEmpty = true ∧ thingV k n s = .iface 3 (.int .i64 n)) ∨
    (valOk k n s = true ∧ k = 2 ∧ n = 0 ∧ (s.size : Int) ≤ 200 ∧ thingV k n s = .iface 9 (.string s)) := by
  unfold valOk thingV
  by_cases h1 : k = 1
  · subst h1
    cases h2 : s.toList.isEmpty <;> simp
  · by_cases h2 : k = 2
    · subst h2
      by_cases h3 : n = 0
      · by_cases h4 : (s.size : Int) ≤ 200
        · simp [h3, h4]
        · simp [h3, h4]
      · simp [h3]
    · simp [h1, h2]

set_option maxHeartbeats 2000000 in
theorem value_thing_calls (k n : Int) (s : ByteArray) (w : World) :
    Calls Try.prog 105 #[.agg #[.int .i64 k, .int .i64 n, .string s]] w fun e w' => e = .returned (thingV k n s) ∧ Below w.heap.size w w' := by
  go_enter Try.func105, Try.ntmps105
  go_wp2
  all_goals
    go_ret
    refine ⟨congrArg Ending.returned ?_, (Below.refl _ _).alloc (Nat.le_refl _) _⟩
    go_tidy
    unfold thingV
    first | (simp_all; done) | (simp_all; omega)

set_option maxHeartbeats 2000000 in
theorem value_Right1_calls (k n : Int) (s : ByteArray) (w : World) :
    Calls Try.prog 133 #[.agg #[.int .i64 k, .int .i64 n, .string s]] w fun e w' => e = .returned (.bool (!valOk k n s)) ∧ Below w.heap.size w w' := by
  have HT := Lib.hid (thingV_cases k n s)
  go_enter Try.func133, Try.ntmps133
  go_wp2_with fail
  refine (value_thing_calls _ _ _ _).mono ?_
  rintro e w1 ⟨rfl, hB⟩
  have HB := Lib.hid (((Below.refl w.heap.size w).alloc (Nat.le_refl _) _).trans (below_down hB (by simp))); clear hB
  rcases HT.out with ⟨h, h2⟩ | ⟨h, h1, h3, h2⟩ | ⟨h, h1, h3, h4, h2⟩
  all_goals
    rw [h2]
    go_wp2
    go_ret
    exact ⟨ret_bool (by rw [h]; rfl), HB.out⟩

set_option maxHeartbeats 2000000 in
theorem ref02_Right_calls (k n : Int) (s : ByteArray) (w : World) :
    Calls Try.prog 22 #[.agg #[.int .i64 k, .int .i64 n, .string s]] w fun e w' => e = .returned (.bool (valOk k n s)) ∧ Below w.heap.size w w' := by
  go_enter Try.func22, Try.ntmps22
  go_wp2
  all_goals
    go_ret
    refine ⟨ret_bool ?_, (Below.refl _ _).alloc (Nat.le_refl _) _⟩
    go_tidy
    unfold valOk
    simp_all

def SValue.ok (v : SValue) : Bool := valOk v.f0 v.f1 v.f2
abbrev SValue.val (v : SValue) : Value := .agg #[.int .i64 v.f0, .int .i64 v.f1, .string v.f2]

set_option maxHeartbeats 1000000 in
theorem IndexFunc_Value_calls (g : Nat) (lb : Array Value) (eg : ∀ args w, (callFunc g args).run Try.prog w = .ok (.enter g args) w) (p : SValue → Bool) (A : Option Addr) (c : Nat) (xs : List SValue) (w : World)
    (h : kValue.C w A xs.length xs) (hp : PredOn Try.prog g lb SValue.val p w xs) :
    Calls Try.prog 149 #[.slice A xs.length c, .func (.func g) #[] lb] w fun e w' => e = .returned (.int .i64 (idxP p xs 0)) ∧ Below w.heap.size w w' := by
  have hm := Kd.C_max h
  have HP := Lib.hid hp; clear hp
  have HX := Lib.hid h; clear h
  go_enter Try.func149, Try.ntmps149
  go_wp2
  go_loopw [5, 8] (fun _ s8 wr => ∃ k : Nat, k ≤ xs.length ∧ s8 = .int .i64 k ∧ Hid (Below w.heap.size w wr) ∧ Hid (idxP p (xs.drop k) k = idxP p xs 0)) (fun _ s8 _ => xs.length - (intOf s8).toNat)
  case atStart => exact ⟨0, Nat.zero_le _, rfl, Lib.hid (Below.refl _ w), Lib.hid rfl⟩
  case round =>
    obtain ⟨k, hk, rfl, HB, HI⟩ := hrel
    by_cases hlt : k < xs.length
    · have hlt2 : (k : Int) < (xs.length : Int) := by omega
      obtain ⟨ad, rfl, g0, g1, g2⟩ := at_Value (Kd.C_below HX.out HB.out) (k : Int) (by omega) (by omega)
      simp only [Int.toNat_natCast] at g0 g1 g2
      have hcall := HP.out wr (rd_Value xs (k : Int)) (by simp [rd_Value, List.getD_eq_getElem?_getD, List.getElem?_eq_getElem hlt]) HB.out
      have HD := Lib.hid (drop_cons xs k zValue hlt)
      have hr : Hid (rd_Value xs (k : Int) = xs.getD k zValue) := Lib.hid (by simp [rd_Value])
      generalize rd_Value xs (k : Int) = y at *
      obtain ⟨y0, y1, y2⟩ := y
      simp only [SValue.val] at *
      cases hq : p ⟨y0, y1, y2⟩ with
      | true =>
        rw [hq] at hcall
        go_wp2_with (go_at_fn g; refine hcall.mono ?_; rintro e w' ⟨rfl, hb'⟩)
        go_ret
        refine ⟨ret_int ?_, HB.out.trans (below_down hb' HB.out.size)⟩
        have := HI.out; rw [HD.out, ← hr.out] at this
        rw [← this]; simp [idxP, hq]
      | false =>
        rw [hq] at hcall
        go_wp2_with (go_at_fn g; refine hcall.mono ?_; rintro e w' ⟨rfl, hb'⟩)
        go_roundw
        case rel =>
          refine ⟨k + 1, by omega, by go_num, Lib.hid (HB.out.trans (below_down hb' HB.out.size)), Lib.hid ?_⟩
          have := HI.out; rw [HD.out, ← hr.out] at this
          rw [← this]; simp [idxP, hq]
        case measure => simp [intOf]; omega
    · have hlt2 : ¬ (k : Int) < (xs.length : Int) := by omega
      go_wp2
      go_ret
      refine ⟨ret_int ?_, HB.out⟩
      have := HI.out; rw [List.drop_eq_nil_of_le (by omega)] at this
      rw [← this]; rfl

set_option maxHeartbeats 1000000 in
theorem ContainsFunc_Value_calls (g : Nat) (lb : Array Value) (eg : ∀ args w, (callFunc g args).run Try.prog w = .ok (.enter g args) w) (p : SValue → Bool) (A : Option Addr) (c : Nat) (xs : List SValue) (w : World)
    (h : kValue.C w A xs.length xs) (hp : PredOn Try.prog g lb SValue.val p w xs) :
    Calls Try.prog 132 #[.slice A xs.length c, .func (.func g) #[] lb] w fun e w' => e = .returned (.bool (xs.any p)) ∧ Below w.heap.size w w' := by
  have HP := Lib.hid hp; clear hp
  have HX := Lib.hid h; clear h
  go_enter Try.func132, Try.ntmps132
  go_wp2_with (go_at_call 149; refine (IndexFunc_Value_calls g lb eg p A c xs w HX.out HP.out).mono ?_; rintro e w' ⟨rfl, hb'⟩)
  go_ret
  exact ⟨ret_bool (idxP_any p xs 0), hb'⟩

theorem enters_Right1 : ∀ args w, (callFunc 133 args).run Try.prog w = .ok (.enter 133 args) w := enters_of Try.func133 (by kernel_rfl) rfl

set_option maxHeartbeats 1000000 in
theorem value_Right_calls (A : Option Addr) (c : Nat) (xs : List SValue) (w : World) (h : kValue.C w A xs.length xs) :
    Calls Try.prog 116 #[.slice A xs.length c] w fun e w' => e = .returned (.bool (!xs.any fun v => !v.ok)) ∧ Below w.heap.size w w' := by
  have HP : Hid (PredOn Try.prog 133 #[] SValue.val (fun v => !v.ok) w xs) := Lib.hid fun W x hx hB => value_Right1_calls x.f0 x.f1 x.f2 W
  have HX := Lib.hid h; clear h
  go_enter Try.func116, Try.ntmps116
  go_wp2_with (go_at_call 132; refine (ContainsFunc_Value_calls 133 #[] enters_Right1 _ A c xs w HX.out HP.out).mono ?_; rintro e w' ⟨rfl, hb'⟩)
  go_ret
  exact ⟨rfl, hb'⟩

theorem value_Right_one (A : Option Addr) (c : Nat) (v : SValue) (w : World) (h : kValue.C w A [v].length [v]) (b : Bool) (hb : v.ok = b) :
    Calls Try.prog 116 #[.slice A 1 c] w fun e w' => e = .returned (.bool b) ∧ Below w.heap.size w w' :=
  (value_Right_calls A c [v] w h).mono fun e w' ⟨he, hw⟩ => ⟨by rw [he, ← hb]; simp, hw⟩
end Go.Proofs.Ytonbnlfijmapfaa
/- props.by, props.Right, and the reference's; what may be. No condition but on sizes. -/
namespace Go.Proofs.Ytonbnlfijmapfaa
open Go.RowKit Go.Shelf Go.Proofs.YtonbnlfijmapfaaW.PrintWords
set_option linter.unusedVariables false
set_option linter.unusedSimpArgs false

set_option maxHeartbeats 1000000 in
theorem props_by_calls (key : ByteArray) (k n : Int) (s b : ByteArray) (w : World) (ha : key.size ≤ 70368744177664) (hb : b.size ≤ 70368744177664) :
    Calls Try.prog 117 #[.agg #[.string key, .int .i64 k, .int .i64 n, .string s], .string b] w fun e w' => e = .returned (.int .i64 (cmpS key b)) ∧ Below w.heap.size w w' := by
  go_enter Try.func117, Try.ntmps117
  go_wp2_with (go_at_call 134; refine (letter_Compare_calls _ _ _ ha hb).mono ?_; rintro e w' ⟨rfl, hb'⟩)
  go_ret
  exact ⟨rfl, ((Below.refl _ _).alloc (Nat.le_refl _) _).trans (below_down hb' (by simp))⟩

def propsFrom : Option ByteArray → List SPrp → Bool
  | _, [] => true
  | q, p :: t => nameRight p.f0 && p.f1.ok && (match q with | none => true | some q => decide (cmpS q p.f0 < 0)) && propsFrom (some p.f0) t
def propsRight (ps : List SPrp) : Bool := propsFrom none ps && decide (ps.length ≤ 16)
def prevAt (l : List SPrp) (k : Nat) : Option ByteArray := if k = 0 then none else some (l.getD (k - 1) zPrp).f0
def fits (ps : List SPrp) : Prop := ∀ p ∈ ps, p.f0.size ≤ 2000000

theorem propsFrom_at (l : List SPrp) (k : Nat) (h : k < l.length) : propsFrom (prevAt l k) (l.drop k) =
    (nameRight (l.getD k zPrp).f0 && (l.getD k zPrp).f1.ok && (match prevAt l k with | none => true | some q => decide (cmpS q (l.getD k zPrp).f0 < 0)) && propsFrom (prevAt l (k + 1)) (l.drop (k + 1))) := by
  rw [drop_cons l k zPrp h]; rfl

theorem propsRight_no {l : List SPrp} (h : propsFrom none l = false) : propsRight l = false := by unfold propsRight; rw [h]; rfl

set_option maxHeartbeats 2000000 in
theorem props_Right_calls (A : Option Addr) (c : Nat) (l : List SPrp) (w : World) (h : kPrp.C w A l.length l) (hf : fits l) :
    Calls Try.prog 86 #[.slice A l.length c] w fun e w' => e = .returned (.bool (propsRight l)) ∧ Below w.heap.size w w' := by
  have hm := Kd.C_max h
  have HX := Lib.hid h; clear h
  have HF := Lib.hid hf; clear hf
  go_enter Try.func86, Try.ntmps86
  go_wp2
  go_loopw [7] (fun s7 wr => ∃ k : Nat, k ≤ l.length ∧ s7 = .int .i64 k ∧ Hid (Below w.heap.size w wr) ∧ Hid (propsFrom (prevAt l k) (l.drop k) = propsFrom none l)) (fun s7 _ => l.length - (intOf s7).toNat)
  case atStart => exact ⟨0, Nat.zero_le _, rfl, Lib.hid (Below.refl _ w), Lib.hid rfl⟩
  case round =>
    obtain ⟨k, hk, rfl, HB, HI⟩ := hrel
    by_cases hlt : k < l.length
    · have hlt2 : (k : Int) < (l.length : Int) := by omega
      have HS := Lib.hid (propsFrom_at l k hlt)
      have hmem : l.getD k zPrp ∈ l := by simp [List.getD_eq_getElem?_getD, List.getElem?_eq_getElem hlt]
      have hs := HF.out _ hmem
      obtain ⟨ad, rfl, g0, g1, g2, g3⟩ := at_Prp (Kd.C_below HX.out HB.out) (k : Int) (by omega) (by omega)
      simp only [Int.toNat_natCast, rd_Prp] at g0 g1 g2 g3
      cases hy : l.getD k zPrp with
      | mk y0 yv =>
      cases yv with
      | mk y1 y2 y3 =>
      rw [hy] at g0 g1 g2 g3 HS hs
      clear hy hmem
      simp only at g0 g1 g2 g3 hs
      cases hN : nameRight y0 with
      | false =>
        go_wp2_with fail
        refine wp_region_held_drew (S := (fun w' => w'.cell? ⟨wr.heap.size, 0, none⟩ = some (.string y0) ∧ w'.cell? ⟨wr.heap.size, 1, none⟩ = some (.int .i64 y1) ∧ w'.cell? ⟨wr.heap.size, 2, none⟩ = some (.int .i64 y2) ∧ w'.cell? ⟨wr.heap.size, 3, none⟩ = some (.string y3) ∧ Below w.heap.size w w')) (by kernel_rfl) ?hS101 (fun hH0 => ?_)
        case hS101 => refine ⟨by go_keep, by go_keep, by go_keep, by go_keep, below_drew (HB.out.alloc HB.out.size _)⟩
        refine takeY (oi := { dst := some 12, op := Op.fieldAddr 117 (Operand.tmp 4) 0, type := 0, pos := "props.go:18", after := #[], guard := none }) 0 (some 12) (v := ?v0_102) rfl rfl (by kernel_rfl) (by kernel_rfl) (by kernel_rfl) (fun _ _ _ h => h) (by kernel_rfl) ?hy102 hH0 ?_
        case hy102 => (intro w_ hSw; (try dsimp only at hSw); go_simp; (first | done | with_reducible rfl | rw [if_neg (by omega)]))
        simp only [Act.put, List.setIfInBounds_toArray, List.set_cons_zero, List.set_cons_succ]
        refine takeY (oi := { dst := some 13, op := Op.load 9 (Operand.tmp 12), type := 9, pos := "props.go:18", after := #[{ on := 0, ground := Ground.data }], guard := none }) 1 (some 13) (v := ?v1_103) rfl rfl (by kernel_rfl) (by kernel_rfl) (by kernel_rfl) (fun _ _ _ h => h) (by kernel_rfl) ?hy103 hH0 ?_
        case hy103 => (intro w_ hSw; (try dsimp only at hSw); go_simp; (first | done | with_reducible rfl | rw [if_neg (by omega)]))
        simp only [Act.put, List.setIfInBounds_toArray, List.set_cons_zero, List.set_cons_succ]
        refine wpAnyH_ready (rs := [2]) (by kernel_rfl) (by simp) ?_
        refine AllReadyH.cons (o := { dst := some 14, op := Op.buildSlice 174 1 #[(0, Operand.tmp 13)], type := 174, pos := "props.go:18", after := #[{ on := 1, ground := Ground.data }], guard := none }) rfl (fun K1 hK1 => ?_) AllReadyH.nil
        go_simp
        refine hK1.out _ _ ?hS104 (fun hH1 => ?_)
        case hS104 => ((try dsimp only); (first | exact keepB4 (by assumption) (by assumption) | exact keepB4 (below_al _ _) (by assumption)))
        clear hK1 K1
        (try clear hH0)
        (try simp only [Act.put, List.setIfInBounds_toArray, List.set_cons_zero, List.set_cons_succ])
        refine wpAnyH_ready (rs := [3]) (by kernel_rfl) (by simp) ?_
        refine AllReadyH.cons (o := { dst := some 15, op := Op.call { callee := Callee.value (Operand.func 85), args := #[Operand.tmp 14], argTypes := #[174] }, type := 4, pos := "props.go:18", after := #[{ on := 2, ground := Ground.data }], guard := none }) rfl (fun K2 hK2 => ?_) AllReadyH.nil
        go_simp; refine (letter_Right_one _ 1 y0 _ ?hC ?hs false hN).mono ?_; (case hC => exact C_boxd Kd.string (by decide) _ _ (by simp) y0 #[.string y0] _ rfl); (case hs => omega); rintro e w2 ⟨rfl, hb2⟩
        refine hK2.out _ _ ?hS105 (fun hH2 => ?_)
        case hS105 => ((try dsimp only); (first | exact keepB4 (by assumption) (by assumption) | exact keepB4 (below_al _ _) (by assumption)))
        clear hK2 K2
        (try clear hH1)
        (try simp only [Act.put, List.setIfInBounds_toArray, List.set_cons_zero, List.set_cons_succ])
        refine takeY (oi := { dst := some 16, op := Op.unOp UnOp.not 4 (Operand.tmp 15), type := 4, pos := "props.go:18", after := #[{ on := 3, ground := Ground.data }], guard := none }) 4 (some 16) (v := ?v4_106) rfl rfl (by kernel_rfl) (by kernel_rfl) (by kernel_rfl) (fun _ _ _ h => h) (by kernel_rfl) ?hy106 hH2 ?_
        case hy106 => (intro w_ hSw; (try dsimp only at hSw); go_simp; (first | done | with_reducible rfl | rw [if_neg (by omega)]))
        simp only [Act.put, List.setIfInBounds_toArray, List.set_cons_zero, List.set_cons_succ]
        refine takeY (oi := { dst := some 17, op := Op.move (Operand.tmp 16), type := 4, pos := "props.go:18", after := #[{ on := 4, ground := Ground.data }, { on := 3, ground := Ground.chain }], guard := none }) 5 (some 17) (v := ?v5_107) rfl rfl (by kernel_rfl) (by kernel_rfl) (by kernel_rfl) (fun _ _ _ h => h) (by kernel_rfl) ?hy107 hH2 ?_
        case hy107 => (intro w_ hSw; (try dsimp only at hSw); go_simp; (first | done | with_reducible rfl | rw [if_neg (by omega)]))
        simp only [Act.put, List.setIfInBounds_toArray, List.set_cons_zero, List.set_cons_succ]
        refine takeN 6 (some 18) rfl (by kernel_rfl) (by kernel_rfl) (by kernel_rfl) (by kernel_rfl) (fun _ _ _ h => h) (by kernel_rfl) hH2 ?_
        simp only [Act.put, List.setIfInBounds_toArray, List.set_cons_zero, List.set_cons_succ]
        refine takeN 7 (some 19) rfl (by kernel_rfl) (by kernel_rfl) (by kernel_rfl) (by kernel_rfl) (fun _ _ _ h => h) (by kernel_rfl) hH2 ?_
        simp only [Act.put, List.setIfInBounds_toArray, List.set_cons_zero, List.set_cons_succ]
        refine takeN 8 (some 20) rfl (by kernel_rfl) (by kernel_rfl) (by kernel_rfl) (by kernel_rfl) (fun _ _ _ h => h) (by kernel_rfl) hH2 ?_
        simp only [Act.put, List.setIfInBounds_toArray, List.set_cons_zero, List.set_cons_succ]
        refine takeN 9 (some 21) rfl (by kernel_rfl) (by kernel_rfl) (by kernel_rfl) (by kernel_rfl) (fun _ _ _ h => h) (by kernel_rfl) hH2 ?_
        simp only [Act.put, List.setIfInBounds_toArray, List.set_cons_zero, List.set_cons_succ]
        refine takeN 10 (some 22) rfl (by kernel_rfl) (by kernel_rfl) (by kernel_rfl) (by kernel_rfl) (fun _ _ _ h => h) (by kernel_rfl) hH2 ?_
        simp only [Act.put, List.setIfInBounds_toArray, List.set_cons_zero, List.set_cons_succ]
        refine takeY (oi := { dst := some 23, op := Op.pick (Operand.tmp 17) (Operand.const (Value.bool true)) (Operand.tmp 22), type := 4, pos := "props.go:18", after := #[{ on := 5, ground := Ground.data }, { on := 10, ground := Ground.data }], guard := none }) 11 (some 23) (v := ?v11_108) rfl rfl (by kernel_rfl) (by kernel_rfl) (by kernel_rfl) (fun _ _ _ h => h) (by kernel_rfl) ?hy108 hH2 ?_
        case hy108 => (intro w_ hSw; (try dsimp only at hSw); go_simp; (first | done | with_reducible rfl | rw [if_neg (by omega)]))
        simp only [Act.put, List.setIfInBounds_toArray, List.set_cons_zero, List.set_cons_succ]
        refine takeY (oi := { dst := some 24, op := Op.move (Operand.tmp 23), type := 4, pos := "props.go:18", after := #[{ on := 11, ground := Ground.data }, { on := 9, ground := Ground.chain }], guard := none }) 12 (some 24) (v := ?v12_109) rfl rfl (by kernel_rfl) (by kernel_rfl) (by kernel_rfl) (fun _ _ _ h => h) (by kernel_rfl) ?hy109 hH2 ?_
        case hy109 => (intro w_ hSw; (try dsimp only at hSw); go_simp; (first | done | with_reducible rfl | rw [if_neg (by omega)]))
        simp only [Act.put, List.setIfInBounds_toArray, List.set_cons_zero, List.set_cons_succ]
        refine takeN 13 (some 25) rfl (by kernel_rfl) (by kernel_rfl) (by kernel_rfl) (by kernel_rfl) (fun _ _ _ h => h) (by kernel_rfl) hH2 ?_
        simp only [Act.put, List.setIfInBounds_toArray, List.set_cons_zero, List.set_cons_succ]
        refine takeN 14 (some 26) rfl (by kernel_rfl) (by kernel_rfl) (by kernel_rfl) (by kernel_rfl) (fun _ _ _ h => h) (by kernel_rfl) hH2 ?_
        simp only [Act.put, List.setIfInBounds_toArray, List.set_cons_zero, List.set_cons_succ]
        refine takeN 15 (some 27) rfl (by kernel_rfl) (by kernel_rfl) (by kernel_rfl) (by kernel_rfl) (fun _ _ _ h => h) (by kernel_rfl) hH2 ?_
        simp only [Act.put, List.setIfInBounds_toArray, List.set_cons_zero, List.set_cons_succ]
        refine takeN 16 (some 28) rfl (by kernel_rfl) (by kernel_rfl) (by kernel_rfl) (by kernel_rfl) (fun _ _ _ h => h) (by kernel_rfl) hH2 ?_
        simp only [Act.put, List.setIfInBounds_toArray, List.set_cons_zero, List.set_cons_succ]
        refine takeN 17 (some 29) rfl (by kernel_rfl) (by kernel_rfl) (by kernel_rfl) (by kernel_rfl) (fun _ _ _ h => h) (by kernel_rfl) hH2 ?_
        simp only [Act.put, List.setIfInBounds_toArray, List.set_cons_zero, List.set_cons_succ]
        refine takeN 18 (some 30) rfl (by kernel_rfl) (by kernel_rfl) (by kernel_rfl) (by kernel_rfl) (fun _ _ _ h => h) (by kernel_rfl) hH2 ?_
        simp only [Act.put, List.setIfInBounds_toArray, List.set_cons_zero, List.set_cons_succ]
        refine takeN 19 (some 31) rfl (by kernel_rfl) (by kernel_rfl) (by kernel_rfl) (by kernel_rfl) (fun _ _ _ h => h) (by kernel_rfl) hH2 ?_
        simp only [Act.put, List.setIfInBounds_toArray, List.set_cons_zero, List.set_cons_succ]
        refine takeN 20 (some 32) rfl (by kernel_rfl) (by kernel_rfl) (by kernel_rfl) (by kernel_rfl) (fun _ _ _ h => h) (by kernel_rfl) hH2 ?_
        simp only [Act.put, List.setIfInBounds_toArray, List.set_cons_zero, List.set_cons_succ]
        refine takeN 21 (some 33) rfl (by kernel_rfl) (by kernel_rfl) (by kernel_rfl) (by kernel_rfl) (fun _ _ _ h => h) (by kernel_rfl) hH2 ?_
        simp only [Act.put, List.setIfInBounds_toArray, List.set_cons_zero, List.set_cons_succ]
        refine takeN 22 (some 34) rfl (by kernel_rfl) (by kernel_rfl) (by kernel_rfl) (by kernel_rfl) (fun _ _ _ h => h) (by kernel_rfl) hH2 ?_
        simp only [Act.put, List.setIfInBounds_toArray, List.set_cons_zero, List.set_cons_succ]
        refine takeN 23 (some 35) rfl (by kernel_rfl) (by kernel_rfl) (by kernel_rfl) (by kernel_rfl) (fun _ _ _ h => h) (by kernel_rfl) hH2 ?_
        simp only [Act.put, List.setIfInBounds_toArray, List.set_cons_zero, List.set_cons_succ]
        refine takeN 24 (some 36) rfl (by kernel_rfl) (by kernel_rfl) (by kernel_rfl) (by kernel_rfl) (fun _ _ _ h => h) (by kernel_rfl) hH2 ?_
        simp only [Act.put, List.setIfInBounds_toArray, List.set_cons_zero, List.set_cons_succ]
        refine takeN 25 (some 37) rfl (by kernel_rfl) (by kernel_rfl) (by kernel_rfl) (by kernel_rfl) (fun _ _ _ h => h) (by kernel_rfl) hH2 ?_
        simp only [Act.put, List.setIfInBounds_toArray, List.set_cons_zero, List.set_cons_succ]
        refine takeY (oi := { dst := some 38, op := Op.pick (Operand.tmp 24) (Operand.const (Value.bool true)) (Operand.tmp 37), type := 4, pos := "props.go:18", after := #[{ on := 12, ground := Ground.data }, { on := 25, ground := Ground.data }], guard := none }) 26 (some 38) (v := ?v26_110) rfl rfl (by kernel_rfl) (by kernel_rfl) (by kernel_rfl) (fun _ _ _ h => h) (by kernel_rfl) ?hy110 hH2 ?_
        case hy110 => (intro w_ hSw; (try dsimp only at hSw); go_simp; (first | done | with_reducible rfl | rw [if_neg (by omega)]))
        simp only [Act.put, List.setIfInBounds_toArray, List.set_cons_zero, List.set_cons_succ]
        refine wpAnyH_done (by kernel_rfl) ?_ _
        have hEnd := hH2
        clear hH2
        have HE := Lib.hid (propsRight_no (by rw [← HI.out, HS.out, hN]; rfl))
        go_wp2
        go_ret
        exact ⟨ret_bool HE.out.symm, hEnd.2.2.2.2⟩
      | true => 
      cases hV : SValue.ok ⟨y1, y2, y3⟩ with
      | false =>
        go_wp2_with fail
        refine wp_region_held_drew (S := (fun w' => w'.cell? ⟨wr.heap.size, 0, none⟩ = some (.string y0) ∧ w'.cell? ⟨wr.heap.size, 1, none⟩ = some (.int .i64 y1) ∧ w'.cell? ⟨wr.heap.size, 2, none⟩ = some (.int .i64 y2) ∧ w'.cell? ⟨wr.heap.size, 3, none⟩ = some (.string y3) ∧ Below w.heap.size w w')) (by kernel_rfl) ?hS201 (fun hH0 => ?_)
        case hS201 => refine ⟨by go_keep, by go_keep, by go_keep, by go_keep, below_drew (HB.out.alloc HB.out.size _)⟩
        refine takeY (oi := { dst := some 12, op := Op.fieldAddr 117 (Operand.tmp 4) 0, type := 0, pos := "props.go:18", after := #[], guard := none }) 0 (some 12) (v := ?v0_202) rfl rfl (by kernel_rfl) (by kernel_rfl) (by kernel_rfl) (fun _ _ _ h => h) (by kernel_rfl) ?hy202 hH0 ?_
        case hy202 => (intro w_ hSw; (try dsimp only at hSw); go_simp; (first | done | with_reducible rfl | rw [if_neg (by omega)]))
        simp only [Act.put, List.setIfInBounds_toArray, List.set_cons_zero, List.set_cons_succ]
        refine takeY (oi := { dst := some 13, op := Op.load 9 (Operand.tmp 12), type := 9, pos := "props.go:18", after := #[{ on := 0, ground := Ground.data }], guard := none }) 1 (some 13) (v := ?v1_203) rfl rfl (by kernel_rfl) (by kernel_rfl) (by kernel_rfl) (fun _ _ _ h => h) (by kernel_rfl) ?hy203 hH0 ?_
        case hy203 => (intro w_ hSw; (try dsimp only at hSw); go_simp; (first | done | with_reducible rfl | rw [if_neg (by omega)]))
        simp only [Act.put, List.setIfInBounds_toArray, List.set_cons_zero, List.set_cons_succ]
        refine wpAnyH_ready (rs := [2]) (by kernel_rfl) (by simp) ?_
        refine AllReadyH.cons (o := { dst := some 14, op := Op.buildSlice 174 1 #[(0, Operand.tmp 13)], type := 174, pos := "props.go:18", after := #[{ on := 1, ground := Ground.data }], guard := none }) rfl (fun K1 hK1 => ?_) AllReadyH.nil
        go_simp
        refine hK1.out _ _ ?hS204 (fun hH1 => ?_)
        case hS204 => ((try dsimp only); (first | exact keepB4 (by assumption) (by assumption) | exact keepB4 (below_al _ _) (by assumption)))
        clear hK1 K1
        (try clear hH0)
        (try simp only [Act.put, List.setIfInBounds_toArray, List.set_cons_zero, List.set_cons_succ])
        refine wpAnyH_ready (rs := [3]) (by kernel_rfl) (by simp) ?_
        refine AllReadyH.cons (o := { dst := some 15, op := Op.call { callee := Callee.value (Operand.func 85), args := #[Operand.tmp 14], argTypes := #[174] }, type := 4, pos := "props.go:18", after := #[{ on := 2, ground := Ground.data }], guard := none }) rfl (fun K2 hK2 => ?_) AllReadyH.nil
        go_simp; refine (letter_Right_one _ 1 y0 _ ?hC ?hs true hN).mono ?_; (case hC => exact C_boxd Kd.string (by decide) _ _ (by simp) y0 #[.string y0] _ rfl); (case hs => omega); rintro e w2 ⟨rfl, hb2⟩
        refine hK2.out _ _ ?hS205 (fun hH2 => ?_)
        case hS205 => ((try dsimp only); (first | exact keepB4 (by assumption) (by assumption) | exact keepB4 (below_al _ _) (by assumption)))
        clear hK2 K2
        (try clear hH1)
        (try simp only [Act.put, List.setIfInBounds_toArray, List.set_cons_zero, List.set_cons_succ])
        refine takeY (oi := { dst := some 16, op := Op.unOp UnOp.not 4 (Operand.tmp 15), type := 4, pos := "props.go:18", after := #[{ on := 3, ground := Ground.data }], guard := none }) 4 (some 16) (v := ?v4_206) rfl rfl (by kernel_rfl) (by kernel_rfl) (by kernel_rfl) (fun _ _ _ h => h) (by kernel_rfl) ?hy206 hH2 ?_
        case hy206 => (intro w_ hSw; (try dsimp only at hSw); go_simp; (first | done | with_reducible rfl | rw [if_neg (by omega)]))
        simp only [Act.put, List.setIfInBounds_toArray, List.set_cons_zero, List.set_cons_succ]
        refine takeY (oi := { dst := some 17, op := Op.move (Operand.tmp 16), type := 4, pos := "props.go:18", after := #[{ on := 4, ground := Ground.data }, { on := 3, ground := Ground.chain }], guard := none }) 5 (some 17) (v := ?v5_207) rfl rfl (by kernel_rfl) (by kernel_rfl) (by kernel_rfl) (fun _ _ _ h => h) (by kernel_rfl) ?hy207 hH2 ?_
        case hy207 => (intro w_ hSw; (try dsimp only at hSw); go_simp; (first | done | with_reducible rfl | rw [if_neg (by omega)]))
        simp only [Act.put, List.setIfInBounds_toArray, List.set_cons_zero, List.set_cons_succ]
        refine takeY (oi := { dst := some 18, op := Op.fieldAddr 117 (Operand.tmp 4) 1, type := 0, pos := "props.go:18", after := #[{ on := 5, ground := Ground.guard }], guard := some (5, false) }) 6 (some 18) (v := ?v6_208) rfl rfl (by kernel_rfl) (by kernel_rfl) (by kernel_rfl) (fun _ _ _ h => h) (by kernel_rfl) ?hy208 hH2 ?_
        case hy208 => (intro w_ hSw; (try dsimp only at hSw); go_simp; (first | done | with_reducible rfl | rw [if_neg (by omega)]))
        simp only [Act.put, List.setIfInBounds_toArray, List.set_cons_zero, List.set_cons_succ]
        refine takeY (oi := { dst := some 19, op := Op.load 42 (Operand.tmp 18), type := 42, pos := "props.go:18", after := #[{ on := 6, ground := Ground.data }, { on := 5, ground := Ground.guard }], guard := some (5, false) }) 7 (some 19) (v := ?v7_209) rfl rfl (by kernel_rfl) (by kernel_rfl) (by kernel_rfl) (fun _ _ _ h => h) (by kernel_rfl) ?hy209 hH2 ?_
        case hy209 => (intro w_ hSw; (try dsimp only at hSw); go_simp; (first | done | with_reducible rfl | rw [if_neg (by omega)]))
        simp only [Act.put, List.setIfInBounds_toArray, List.set_cons_zero, List.set_cons_succ]
        refine wpAnyH_ready (rs := [8]) (by kernel_rfl) (by simp) ?_
        refine AllReadyH.cons (o := { dst := some 20, op := Op.buildSlice 188 1 #[(0, Operand.tmp 19)], type := 188, pos := "props.go:18", after := #[{ on := 7, ground := Ground.data }, { on := 5, ground := Ground.guard }], guard := some (5, false) }) rfl (fun K3 hK3 => ?_) AllReadyH.nil
        go_simp
        refine hK3.out _ _ ?hS210 (fun hH3 => ?_)
        case hS210 => ((try dsimp only); (first | exact keepB4 (by assumption) (by assumption) | exact keepB4 (below_al _ _) (by assumption)))
        clear hK3 K3
        (try clear hH2)
        (try simp only [Act.put, List.setIfInBounds_toArray, List.set_cons_zero, List.set_cons_succ])
        refine wpAnyH_ready (rs := [9]) (by kernel_rfl) (by simp) ?_
        refine AllReadyH.cons (o := { dst := some 21, op := Op.call { callee := Callee.value (Operand.func 116), args := #[Operand.tmp 20], argTypes := #[188] }, type := 4, pos := "props.go:18", after := #[{ on := 8, ground := Ground.data }, { on := 5, ground := Ground.chain }, { on := 5, ground := Ground.guard }], guard := some (5, false) }) rfl (fun K4 hK4 => ?_) AllReadyH.nil
        go_simp; refine (value_Right_one _ 1 ⟨y1, y2, y3⟩ _ ?hC false hV).mono ?_; (case hC => exact C_boxg kValue (by decide) _ _ (by simp) ⟨y1, y2, y3⟩ #[.int .i64 y1, .int .i64 y2, .string y3] _ (kValue_mk _ _)); rintro e w3 ⟨rfl, hb3⟩
        refine hK4.out _ _ ?hS211 (fun hH4 => ?_)
        case hS211 => ((try dsimp only); (first | exact keepB4 (by assumption) (by assumption) | exact keepB4 (below_al _ _) (by assumption)))
        clear hK4 K4
        (try clear hH3)
        (try simp only [Act.put, List.setIfInBounds_toArray, List.set_cons_zero, List.set_cons_succ])
        refine takeY (oi := { dst := some 22, op := Op.unOp UnOp.not 4 (Operand.tmp 21), type := 4, pos := "props.go:18", after := #[{ on := 9, ground := Ground.data }, { on := 5, ground := Ground.guard }], guard := some (5, false) }) 10 (some 22) (v := ?v10_212) rfl rfl (by kernel_rfl) (by kernel_rfl) (by kernel_rfl) (fun _ _ _ h => h) (by kernel_rfl) ?hy212 hH4 ?_
        case hy212 => (intro w_ hSw; (try dsimp only at hSw); go_simp; (first | done | with_reducible rfl | rw [if_neg (by omega)]))
        simp only [Act.put, List.setIfInBounds_toArray, List.set_cons_zero, List.set_cons_succ]
        refine takeY (oi := { dst := some 23, op := Op.pick (Operand.tmp 17) (Operand.const (Value.bool true)) (Operand.tmp 22), type := 4, pos := "props.go:18", after := #[{ on := 5, ground := Ground.data }, { on := 10, ground := Ground.data }], guard := none }) 11 (some 23) (v := ?v11_213) rfl rfl (by kernel_rfl) (by kernel_rfl) (by kernel_rfl) (fun _ _ _ h => h) (by kernel_rfl) ?hy213 hH4 ?_
        case hy213 => (intro w_ hSw; (try dsimp only at hSw); go_simp; (first | done | with_reducible rfl | rw [if_neg (by omega)]))
        simp only [Act.put, List.setIfInBounds_toArray, List.set_cons_zero, List.set_cons_succ]
        refine takeY (oi := { dst := some 24, op := Op.move (Operand.tmp 23), type := 4, pos := "props.go:18", after := #[{ on := 11, ground := Ground.data }, { on := 9, ground := Ground.chain }], guard := none }) 12 (some 24) (v := ?v12_214) rfl rfl (by kernel_rfl) (by kernel_rfl) (by kernel_rfl) (fun _ _ _ h => h) (by kernel_rfl) ?hy214 hH4 ?_
        case hy214 => (intro w_ hSw; (try dsimp only at hSw); go_simp; (first | done | with_reducible rfl | rw [if_neg (by omega)]))
        simp only [Act.put, List.setIfInBounds_toArray, List.set_cons_zero, List.set_cons_succ]
        refine takeN 13 (some 25) rfl (by kernel_rfl) (by kernel_rfl) (by kernel_rfl) (by kernel_rfl) (fun _ _ _ h => h) (by kernel_rfl) hH4 ?_
        simp only [Act.put, List.setIfInBounds_toArray, List.set_cons_zero, List.set_cons_succ]
        refine takeN 14 (some 26) rfl (by kernel_rfl) (by kernel_rfl) (by kernel_rfl) (by kernel_rfl) (fun _ _ _ h => h) (by kernel_rfl) hH4 ?_
        simp only [Act.put, List.setIfInBounds_toArray, List.set_cons_zero, List.set_cons_succ]
        refine takeN 15 (some 27) rfl (by kernel_rfl) (by kernel_rfl) (by kernel_rfl) (by kernel_rfl) (fun _ _ _ h => h) (by kernel_rfl) hH4 ?_
        simp only [Act.put, List.setIfInBounds_toArray, List.set_cons_zero, List.set_cons_succ]
        refine takeN 16 (some 28) rfl (by kernel_rfl) (by kernel_rfl) (by kernel_rfl) (by kernel_rfl) (fun _ _ _ h => h) (by kernel_rfl) hH4 ?_
        simp only [Act.put, List.setIfInBounds_toArray, List.set_cons_zero, List.set_cons_succ]
        refine takeN 17 (some 29) rfl (by kernel_rfl) (by kernel_rfl) (by kernel_rfl) (by kernel_rfl) (fun _ _ _ h => h) (by kernel_rfl) hH4 ?_
        simp only [Act.put, List.setIfInBounds_toArray, List.set_cons_zero, List.set_cons_succ]
        refine takeN 18 (some 30) rfl (by kernel_rfl) (by kernel_rfl) (by kernel_rfl) (by kernel_rfl) (fun _ _ _ h => h) (by kernel_rfl) hH4 ?_
        simp only [Act.put, List.setIfInBounds_toArray, List.set_cons_zero, List.set_cons_succ]
        refine takeN 19 (some 31) rfl (by kernel_rfl) (by kernel_rfl) (by kernel_rfl) (by kernel_rfl) (fun _ _ _ h => h) (by kernel_rfl) hH4 ?_
        simp only [Act.put, List.setIfInBounds_toArray, List.set_cons_zero, List.set_cons_succ]
        refine takeN 20 (some 32) rfl (by kernel_rfl) (by kernel_rfl) (by kernel_rfl) (by kernel_rfl) (fun _ _ _ h => h) (by kernel_rfl) hH4 ?_
        simp only [Act.put, List.setIfInBounds_toArray, List.set_cons_zero, List.set_cons_succ]
        refine takeN 21 (some 33) rfl (by kernel_rfl) (by kernel_rfl) (by kernel_rfl) (by kernel_rfl) (fun _ _ _ h => h) (by kernel_rfl) hH4 ?_
        simp only [Act.put, List.setIfInBounds_toArray, List.set_cons_zero, List.set_cons_succ]
        refine takeN 22 (some 34) rfl (by kernel_rfl) (by kernel_rfl) (by kernel_rfl) (by kernel_rfl) (fun _ _ _ h => h) (by kernel_rfl) hH4 ?_
        simp only [Act.put, List.setIfInBounds_toArray, List.set_cons_zero, List.set_cons_succ]
        refine takeN 23 (some 35) rfl (by kernel_rfl) (by kernel_rfl) (by kernel_rfl) (by kernel_rfl) (fun _ _ _ h => h) (by kernel_rfl) hH4 ?_
        simp only [Act.put, List.setIfInBounds_toArray, List.set_cons_zero, List.set_cons_succ]
        refine takeN 24 (some 36) rfl (by kernel_rfl) (by kernel_rfl) (by kernel_rfl) (by kernel_rfl) (fun _ _ _ h => h) (by kernel_rfl) hH4 ?_
        simp only [Act.put, List.setIfInBounds_toArray, List.set_cons_zero, List.set_cons_succ]
        refine takeN 25 (some 37) rfl (by kernel_rfl) (by kernel_rfl) (by kernel_rfl) (by kernel_rfl) (fun _ _ _ h => h) (by kernel_rfl) hH4 ?_
        simp only [Act.put, List.setIfInBounds_toArray, List.set_cons_zero, List.set_cons_succ]
        refine takeY (oi := { dst := some 38, op := Op.pick (Operand.tmp 24) (Operand.const (Value.bool true)) (Operand.tmp 37), type := 4, pos := "props.go:18", after := #[{ on := 12, ground := Ground.data }, { on := 25, ground := Ground.data }], guard := none }) 26 (some 38) (v := ?v26_215) rfl rfl (by kernel_rfl) (by kernel_rfl) (by kernel_rfl) (fun _ _ _ h => h) (by kernel_rfl) ?hy215 hH4 ?_
        case hy215 => (intro w_ hSw; (try dsimp only at hSw); go_simp; (first | done | with_reducible rfl | rw [if_neg (by omega)]))
        simp only [Act.put, List.setIfInBounds_toArray, List.set_cons_zero, List.set_cons_succ]
        refine wpAnyH_done (by kernel_rfl) ?_ _
        have hEnd := hH4
        clear hH4
        have HE := Lib.hid (propsRight_no (by rw [← HI.out, HS.out, hN, hV]; rfl))
        go_wp2
        go_ret
        exact ⟨ret_bool HE.out.symm, hEnd.2.2.2.2⟩
      | true =>
      by_cases hk0 : k = 0
      · subst hk0
        simp only [Nat.zero_mul, add_zero_] at g0 g1 g2 g3
        go_wp2_with fail
        refine wp_region_held_drew (S := (fun w' => w'.cell? ⟨wr.heap.size, 0, none⟩ = some (.string y0) ∧ w'.cell? ⟨wr.heap.size, 1, none⟩ = some (.int .i64 y1) ∧ w'.cell? ⟨wr.heap.size, 2, none⟩ = some (.int .i64 y2) ∧ w'.cell? ⟨wr.heap.size, 3, none⟩ = some (.string y3) ∧ Below w.heap.size w w')) (by kernel_rfl) ?hS301 (fun hH0 => ?_)
        case hS301 => refine ⟨by go_keep, by go_keep, by go_keep, by go_keep, below_drew (HB.out.alloc HB.out.size _)⟩
        refine takeY (oi := { dst := some 12, op := Op.fieldAddr 117 (Operand.tmp 4) 0, type := 0, pos := "props.go:18", after := #[], guard := none }) 0 (some 12) (v := ?v0_302) rfl rfl (by kernel_rfl) (by kernel_rfl) (by kernel_rfl) (fun _ _ _ h => h) (by kernel_rfl) ?hy302 hH0 ?_
        case hy302 => (intro w_ hSw; (try dsimp only at hSw); go_simp; (first | done | with_reducible rfl | rw [if_neg (by omega)]))
        simp only [Act.put, List.setIfInBounds_toArray, List.set_cons_zero, List.set_cons_succ]
        refine takeY (oi := { dst := some 13, op := Op.load 9 (Operand.tmp 12), type := 9, pos := "props.go:18", after := #[{ on := 0, ground := Ground.data }], guard := none }) 1 (some 13) (v := ?v1_303) rfl rfl (by kernel_rfl) (by kernel_rfl) (by kernel_rfl) (fun _ _ _ h => h) (by kernel_rfl) ?hy303 hH0 ?_
        case hy303 => (intro w_ hSw; (try dsimp only at hSw); go_simp; (first | done | with_reducible rfl | rw [if_neg (by omega)]))
        simp only [Act.put, List.setIfInBounds_toArray, List.set_cons_zero, List.set_cons_succ]
        refine wpAnyH_ready (rs := [2]) (by kernel_rfl) (by simp) ?_
        refine AllReadyH.cons (o := { dst := some 14, op := Op.buildSlice 174 1 #[(0, Operand.tmp 13)], type := 174, pos := "props.go:18", after := #[{ on := 1, ground := Ground.data }], guard := none }) rfl (fun K1 hK1 => ?_) AllReadyH.nil
        go_simp
        refine hK1.out _ _ ?hS304 (fun hH1 => ?_)
        case hS304 => ((try dsimp only); (first | exact keepB4 (by assumption) (by assumption) | exact keepB4 (below_al _ _) (by assumption)))
        clear hK1 K1
        (try clear hH0)
        (try simp only [Act.put, List.setIfInBounds_toArray, List.set_cons_zero, List.set_cons_succ])
        refine wpAnyH_ready (rs := [3]) (by kernel_rfl) (by simp) ?_
        refine AllReadyH.cons (o := { dst := some 15, op := Op.call { callee := Callee.value (Operand.func 85), args := #[Operand.tmp 14], argTypes := #[174] }, type := 4, pos := "props.go:18", after := #[{ on := 2, ground := Ground.data }], guard := none }) rfl (fun K2 hK2 => ?_) AllReadyH.nil
        go_simp; refine (letter_Right_one _ 1 y0 _ ?hC ?hs true hN).mono ?_; (case hC => exact C_boxd Kd.string (by decide) _ _ (by simp) y0 #[.string y0] _ rfl); (case hs => omega); rintro e w2 ⟨rfl, hb2⟩
        refine hK2.out _ _ ?hS305 (fun hH2 => ?_)
        case hS305 => ((try dsimp only); (first | exact keepB4 (by assumption) (by assumption) | exact keepB4 (below_al _ _) (by assumption)))
        clear hK2 K2
        (try clear hH1)
        (try simp only [Act.put, List.setIfInBounds_toArray, List.set_cons_zero, List.set_cons_succ])
        refine takeY (oi := { dst := some 16, op := Op.unOp UnOp.not 4 (Operand.tmp 15), type := 4, pos := "props.go:18", after := #[{ on := 3, ground := Ground.data }], guard := none }) 4 (some 16) (v := ?v4_306) rfl rfl (by kernel_rfl) (by kernel_rfl) (by kernel_rfl) (fun _ _ _ h => h) (by kernel_rfl) ?hy306 hH2 ?_
        case hy306 => (intro w_ hSw; (try dsimp only at hSw); go_simp; (first | done | with_reducible rfl | rw [if_neg (by omega)]))
        simp only [Act.put, List.setIfInBounds_toArray, List.set_cons_zero, List.set_cons_succ]
        refine takeY (oi := { dst := some 17, op := Op.move (Operand.tmp 16), type := 4, pos := "props.go:18", after := #[{ on := 4, ground := Ground.data }, { on := 3, ground := Ground.chain }], guard := none }) 5 (some 17) (v := ?v5_307) rfl rfl (by kernel_rfl) (by kernel_rfl) (by kernel_rfl) (fun _ _ _ h => h) (by kernel_rfl) ?hy307 hH2 ?_
        case hy307 => (intro w_ hSw; (try dsimp only at hSw); go_simp; (first | done | with_reducible rfl | rw [if_neg (by omega)]))
        simp only [Act.put, List.setIfInBounds_toArray, List.set_cons_zero, List.set_cons_succ]
        refine takeY (oi := { dst := some 18, op := Op.fieldAddr 117 (Operand.tmp 4) 1, type := 0, pos := "props.go:18", after := #[{ on := 5, ground := Ground.guard }], guard := some (5, false) }) 6 (some 18) (v := ?v6_308) rfl rfl (by kernel_rfl) (by kernel_rfl) (by kernel_rfl) (fun _ _ _ h => h) (by kernel_rfl) ?hy308 hH2 ?_
        case hy308 => (intro w_ hSw; (try dsimp only at hSw); go_simp; (first | done | with_reducible rfl | rw [if_neg (by omega)]))
        simp only [Act.put, List.setIfInBounds_toArray, List.set_cons_zero, List.set_cons_succ]
        refine takeY (oi := { dst := some 19, op := Op.load 42 (Operand.tmp 18), type := 42, pos := "props.go:18", after := #[{ on := 6, ground := Ground.data }, { on := 5, ground := Ground.guard }], guard := some (5, false) }) 7 (some 19) (v := ?v7_309) rfl rfl (by kernel_rfl) (by kernel_rfl) (by kernel_rfl) (fun _ _ _ h => h) (by kernel_rfl) ?hy309 hH2 ?_
        case hy309 => (intro w_ hSw; (try dsimp only at hSw); go_simp; (first | done | with_reducible rfl | rw [if_neg (by omega)]))
        simp only [Act.put, List.setIfInBounds_toArray, List.set_cons_zero, List.set_cons_succ]
        refine wpAnyH_ready (rs := [8]) (by kernel_rfl) (by simp) ?_
        refine AllReadyH.cons (o := { dst := some 20, op := Op.buildSlice 188 1 #[(0, Operand.tmp 19)], type := 188, pos := "props.go:18", after := #[{ on := 7, ground := Ground.data }, { on := 5, ground := Ground.guard }], guard := some (5, false) }) rfl (fun K3 hK3 => ?_) AllReadyH.nil
        go_simp
        refine hK3.out _ _ ?hS310 (fun hH3 => ?_)
        case hS310 => ((try dsimp only); (first | exact keepB4 (by assumption) (by assumption) | exact keepB4 (below_al _ _) (by assumption)))
        clear hK3 K3
        (try clear hH2)
        (try simp only [Act.put, List.setIfInBounds_toArray, List.set_cons_zero, List.set_cons_succ])
        refine wpAnyH_ready (rs := [9]) (by kernel_rfl) (by simp) ?_
        refine AllReadyH.cons (o := { dst := some 21, op := Op.call { callee := Callee.value (Operand.func 116), args := #[Operand.tmp 20], argTypes := #[188] }, type := 4, pos := "props.go:18", after := #[{ on := 8, ground := Ground.data }, { on := 5, ground := Ground.chain }, { on := 5, ground := Ground.guard }], guard := some (5, false) }) rfl (fun K4 hK4 => ?_) AllReadyH.nil
        go_simp; refine (value_Right_one _ 1 ⟨y1, y2, y3⟩ _ ?hC true hV).mono ?_; (case hC => exact C_boxg kValue (by decide) _ _ (by simp) ⟨y1, y2, y3⟩ #[.int .i64 y1, .int .i64 y2, .string y3] _ (kValue_mk _ _)); rintro e w3 ⟨rfl, hb3⟩
        refine hK4.out _ _ ?hS311 (fun hH4 => ?_)
        case hS311 => ((try dsimp only); (first | exact keepB4 (by assumption) (by assumption) | exact keepB4 (below_al _ _) (by assumption)))
        clear hK4 K4
        (try clear hH3)
        (try simp only [Act.put, List.setIfInBounds_toArray, List.set_cons_zero, List.set_cons_succ])
        refine takeY (oi := { dst := some 22, op := Op.unOp UnOp.not 4 (Operand.tmp 21), type := 4, pos := "props.go:18", after := #[{ on := 9, ground := Ground.data }, { on := 5, ground := Ground.guard }], guard := some (5, false) }) 10 (some 22) (v := ?v10_312) rfl rfl (by kernel_rfl) (by kernel_rfl) (by kernel_rfl) (fun _ _ _ h => h) (by kernel_rfl) ?hy312 hH4 ?_
        case hy312 => (intro w_ hSw; (try dsimp only at hSw); go_simp; (first | done | with_reducible rfl | rw [if_neg (by omega)]))
        simp only [Act.put, List.setIfInBounds_toArray, List.set_cons_zero, List.set_cons_succ]
        refine takeY (oi := { dst := some 23, op := Op.pick (Operand.tmp 17) (Operand.const (Value.bool true)) (Operand.tmp 22), type := 4, pos := "props.go:18", after := #[{ on := 5, ground := Ground.data }, { on := 10, ground := Ground.data }], guard := none }) 11 (some 23) (v := ?v11_313) rfl rfl (by kernel_rfl) (by kernel_rfl) (by kernel_rfl) (fun _ _ _ h => h) (by kernel_rfl) ?hy313 hH4 ?_
        case hy313 => (intro w_ hSw; (try dsimp only at hSw); go_simp; (first | done | with_reducible rfl | rw [if_neg (by omega)]))
        simp only [Act.put, List.setIfInBounds_toArray, List.set_cons_zero, List.set_cons_succ]
        refine takeY (oi := { dst := some 24, op := Op.move (Operand.tmp 23), type := 4, pos := "props.go:18", after := #[{ on := 11, ground := Ground.data }, { on := 9, ground := Ground.chain }], guard := none }) 12 (some 24) (v := ?v12_314) rfl rfl (by kernel_rfl) (by kernel_rfl) (by kernel_rfl) (fun _ _ _ h => h) (by kernel_rfl) ?hy314 hH4 ?_
        case hy314 => (intro w_ hSw; (try dsimp only at hSw); go_simp; (first | done | with_reducible rfl | rw [if_neg (by omega)]))
        simp only [Act.put, List.setIfInBounds_toArray, List.set_cons_zero, List.set_cons_succ]
        refine takeY (oi := { dst := some 25, op := Op.move (Operand.tmp 3), type := 3, pos := "props.go:18", after := #[{ on := 12, ground := Ground.guard }], guard := some (12, false) }) 13 (some 25) (v := ?v13_315) rfl rfl (by kernel_rfl) (by kernel_rfl) (by kernel_rfl) (fun _ _ _ h => h) (by kernel_rfl) ?hy315 hH4 ?_
        case hy315 => (intro w_ hSw; (try dsimp only at hSw); go_simp; (first | done | with_reducible rfl | rw [if_neg (by omega)]))
        simp only [Act.put, List.setIfInBounds_toArray, List.set_cons_zero, List.set_cons_succ]
        refine takeY (oi := { dst := some 26, op := Op.binOp BinOp.gtr 3 (Operand.tmp 25) (Operand.const (Value.int IntKind.i64 0)) 3, type := 4, pos := "props.go:18", after := #[{ on := 13, ground := Ground.data }, { on := 12, ground := Ground.guard }], guard := some (12, false) }) 14 (some 26) (v := ?v14_316) rfl rfl (by kernel_rfl) (by kernel_rfl) (by kernel_rfl) (fun _ _ _ h => h) (by kernel_rfl) ?hy316 hH4 ?_
        case hy316 => (intro w_ hSw; (try dsimp only at hSw); go_simp; (first | done | with_reducible rfl | rw [if_neg (by omega)]))
        simp only [Act.put, List.setIfInBounds_toArray, List.set_cons_zero, List.set_cons_succ]
        refine takeY (oi := { dst := some 27, op := Op.move (Operand.tmp 26), type := 4, pos := "props.go:18", after := #[{ on := 14, ground := Ground.data }, { on := 12, ground := Ground.chain }, { on := 12, ground := Ground.guard }], guard := some (12, false) }) 15 (some 27) (v := ?v15_317) rfl rfl (by kernel_rfl) (by kernel_rfl) (by kernel_rfl) (fun _ _ _ h => h) (by kernel_rfl) ?hy317 hH4 ?_
        case hy317 => (intro w_ hSw; (try dsimp only at hSw); go_simp; (first | done | with_reducible rfl | rw [if_neg (by omega)]))
        simp only [Act.put, List.setIfInBounds_toArray, List.set_cons_zero, List.set_cons_succ]
        refine takeN 16 (some 28) rfl (by kernel_rfl) (by kernel_rfl) (by kernel_rfl) (by kernel_rfl) (fun _ _ _ h => h) (by kernel_rfl) hH4 ?_
        simp only [Act.put, List.setIfInBounds_toArray, List.set_cons_zero, List.set_cons_succ]
        refine takeN 17 (some 29) rfl (by kernel_rfl) (by kernel_rfl) (by kernel_rfl) (by kernel_rfl) (fun _ _ _ h => h) (by kernel_rfl) hH4 ?_
        simp only [Act.put, List.setIfInBounds_toArray, List.set_cons_zero, List.set_cons_succ]
        refine takeN 18 (some 30) rfl (by kernel_rfl) (by kernel_rfl) (by kernel_rfl) (by kernel_rfl) (fun _ _ _ h => h) (by kernel_rfl) hH4 ?_
        simp only [Act.put, List.setIfInBounds_toArray, List.set_cons_zero, List.set_cons_succ]
        refine takeN 19 (some 31) rfl (by kernel_rfl) (by kernel_rfl) (by kernel_rfl) (by kernel_rfl) (fun _ _ _ h => h) (by kernel_rfl) hH4 ?_
        simp only [Act.put, List.setIfInBounds_toArray, List.set_cons_zero, List.set_cons_succ]
        refine takeN 20 (some 32) rfl (by kernel_rfl) (by kernel_rfl) (by kernel_rfl) (by kernel_rfl) (fun _ _ _ h => h) (by kernel_rfl) hH4 ?_
        simp only [Act.put, List.setIfInBounds_toArray, List.set_cons_zero, List.set_cons_succ]
        refine takeN 21 (some 33) rfl (by kernel_rfl) (by kernel_rfl) (by kernel_rfl) (by kernel_rfl) (fun _ _ _ h => h) (by kernel_rfl) hH4 ?_
        simp only [Act.put, List.setIfInBounds_toArray, List.set_cons_zero, List.set_cons_succ]
        refine takeN 22 (some 34) rfl (by kernel_rfl) (by kernel_rfl) (by kernel_rfl) (by kernel_rfl) (fun _ _ _ h => h) (by kernel_rfl) hH4 ?_
        simp only [Act.put, List.setIfInBounds_toArray, List.set_cons_zero, List.set_cons_succ]
        refine takeN 23 (some 35) rfl (by kernel_rfl) (by kernel_rfl) (by kernel_rfl) (by kernel_rfl) (fun _ _ _ h => h) (by kernel_rfl) hH4 ?_
        simp only [Act.put, List.setIfInBounds_toArray, List.set_cons_zero, List.set_cons_succ]
        refine takeN 24 (some 36) rfl (by kernel_rfl) (by kernel_rfl) (by kernel_rfl) (by kernel_rfl) (fun _ _ _ h => h) (by kernel_rfl) hH4 ?_
        simp only [Act.put, List.setIfInBounds_toArray, List.set_cons_zero, List.set_cons_succ]
        refine takeY (oi := { dst := some 37, op := Op.pick (Operand.tmp 27) (Operand.tmp 36) (Operand.const (Value.bool false)), type := 4, pos := "props.go:18", after := #[{ on := 15, ground := Ground.data }, { on := 24, ground := Ground.data }, { on := 12, ground := Ground.guard }], guard := some (12, false) }) 25 (some 37) (v := ?v25_318) rfl rfl (by kernel_rfl) (by kernel_rfl) (by kernel_rfl) (fun _ _ _ h => h) (by kernel_rfl) ?hy318 hH4 ?_
        case hy318 => (intro w_ hSw; (try dsimp only at hSw); go_simp; (first | done | with_reducible rfl | rw [if_neg (by omega)]))
        simp only [Act.put, List.setIfInBounds_toArray, List.set_cons_zero, List.set_cons_succ]
        refine takeY (oi := { dst := some 38, op := Op.pick (Operand.tmp 24) (Operand.const (Value.bool true)) (Operand.tmp 37), type := 4, pos := "props.go:18", after := #[{ on := 12, ground := Ground.data }, { on := 25, ground := Ground.data }], guard := none }) 26 (some 38) (v := ?v26_319) rfl rfl (by kernel_rfl) (by kernel_rfl) (by kernel_rfl) (fun _ _ _ h => h) (by kernel_rfl) ?hy319 hH4 ?_
        case hy319 => (intro w_ hSw; (try dsimp only at hSw); go_simp; (first | done | with_reducible rfl | rw [if_neg (by omega)]))
        simp only [Act.put, List.setIfInBounds_toArray, List.set_cons_zero, List.set_cons_succ]
        refine wpAnyH_done (by kernel_rfl) ?_ _
        have hEnd := hH4
        clear hH4
        have HB2 := Lib.hid (hEnd.2.2.2.2)
        have HE := Lib.hid (HS.out.symm.trans HI.out)
        rw [hN, hV] at HE
        go_wp2
        go_roundw
        case rel => exact ⟨1, by omega, by go_num, HB2, Lib.hid (by rw [← HE.out]; simp [prevAt])⟩
        case measure => simp [intOf]; omega
      · obtain ⟨m, rfl⟩ : ∃ m, k = m + 1 := ⟨k - 1, by omega⟩
        obtain ⟨ad', e, f0, f1, f2, f3⟩ := at_Prp (Kd.C_below HX.out HB.out) (m : Int) (by omega) (by omega)
        obtain rfl : ad = ad' := by injection e
        clear e
        simp only [Int.toNat_natCast, rd_Prp] at f0 f1 f2 f3
        have hmem2 := HF.out (l.getD m zPrp) (by simp [List.getD_eq_getElem?_getD, List.getElem?_eq_getElem (show m < l.length by omega)])
        have HP : Hid (prevAt l (m + 1) = some (l.getD m zPrp).f0) := Lib.hid (by simp [prevAt])
        cases hx : l.getD m zPrp with
        | mk x0 xv =>
        cases xv with
        | mk x1 x2 x3 =>
        rw [hx] at f0 f1 f2 f3 HP hmem2
        simp only at f0 f1 f2 f3 hmem2
        clear hx
        have hwr : IntKind.i64.wrap (m : Int) = (m : Int) := IntWalk.i64_in _ (by omega)
        have hm1 : (0 : Int) ≤ (m : Int) := by omega
        have hm2 : (m : Int) < (l.length : Int) := by omega
        by_cases hC : cmpS x0 y0 < 0
        · have HS2 := Lib.hid (show propsFrom (prevAt l (m + 1)) (l.drop (m + 1)) = propsFrom (prevAt l (m + 1 + 1)) (l.drop (m + 1 + 1)) by rw [HS.out, hN, hV, HP.out]; simp [hC])
          go_wp2_with fail
          refine wp_region_held_drew (S := (fun w' => w'.cell? ⟨wr.heap.size, 0, none⟩ = some (.string y0) ∧ w'.cell? ⟨wr.heap.size, 1, none⟩ = some (.int .i64 y1) ∧ w'.cell? ⟨wr.heap.size, 2, none⟩ = some (.int .i64 y2) ∧ w'.cell? ⟨wr.heap.size, 3, none⟩ = some (.string y3) ∧ w'.cell? (ad.add (m * 4)) = some (.string x0) ∧ w'.cell? ⟨(ad.add (m * 4)).block, (ad.add (m * 4)).off + 1, none⟩ = some (.int .i64 x1) ∧ w'.cell? ⟨(ad.add (m * 4)).block, (ad.add (m * 4)).off + 2, none⟩ = some (.int .i64 x2) ∧ w'.cell? ⟨(ad.add (m * 4)).block, (ad.add (m * 4)).off + 3, none⟩ = some (.string x3) ∧ Below w.heap.size w w')) (by kernel_rfl) ?hS401 (fun hH0 => ?_)
          case hS401 => refine ⟨by go_keep, by go_keep, by go_keep, by go_keep, by go_keep, by go_keep, by go_keep, by go_keep, below_drew (HB.out.alloc HB.out.size _)⟩
          refine takeY (oi := { dst := some 12, op := Op.fieldAddr 117 (Operand.tmp 4) 0, type := 0, pos := "props.go:18", after := #[], guard := none }) 0 (some 12) (v := ?v0_402) rfl rfl (by kernel_rfl) (by kernel_rfl) (by kernel_rfl) (fun _ _ _ h => h) (by kernel_rfl) ?hy402 hH0 ?_
          case hy402 => (intro w_ hSw; (try dsimp only at hSw); go_simp; (first | done | with_reducible rfl | rw [if_neg (by omega)]))
          simp only [Act.put, List.setIfInBounds_toArray, List.set_cons_zero, List.set_cons_succ]
          refine takeY (oi := { dst := some 13, op := Op.load 9 (Operand.tmp 12), type := 9, pos := "props.go:18", after := #[{ on := 0, ground := Ground.data }], guard := none }) 1 (some 13) (v := ?v1_403) rfl rfl (by kernel_rfl) (by kernel_rfl) (by kernel_rfl) (fun _ _ _ h => h) (by kernel_rfl) ?hy403 hH0 ?_
          case hy403 => (intro w_ hSw; (try dsimp only at hSw); go_simp; (first | done | with_reducible rfl | rw [if_neg (by omega)]))
          simp only [Act.put, List.setIfInBounds_toArray, List.set_cons_zero, List.set_cons_succ]
          refine wpAnyH_ready (rs := [2]) (by kernel_rfl) (by simp) ?_
          refine AllReadyH.cons (o := { dst := some 14, op := Op.buildSlice 174 1 #[(0, Operand.tmp 13)], type := 174, pos := "props.go:18", after := #[{ on := 1, ground := Ground.data }], guard := none }) rfl (fun K1 hK1 => ?_) AllReadyH.nil
          go_simp
          refine hK1.out _ _ ?hS404 (fun hH1 => ?_)
          case hS404 => ((try dsimp only); (first | exact keepB8 (by assumption) (by assumption) | exact keepB8 (below_al _ _) (by assumption)))
          clear hK1 K1
          (try clear hH0)
          (try simp only [Act.put, List.setIfInBounds_toArray, List.set_cons_zero, List.set_cons_succ])
          refine wpAnyH_ready (rs := [3]) (by kernel_rfl) (by simp) ?_
          refine AllReadyH.cons (o := { dst := some 15, op := Op.call { callee := Callee.value (Operand.func 85), args := #[Operand.tmp 14], argTypes := #[174] }, type := 4, pos := "props.go:18", after := #[{ on := 2, ground := Ground.data }], guard := none }) rfl (fun K2 hK2 => ?_) AllReadyH.nil
          go_simp; refine (letter_Right_one _ 1 y0 _ ?hC ?hs true hN).mono ?_; (case hC => exact C_boxd Kd.string (by decide) _ _ (by simp) y0 #[.string y0] _ rfl); (case hs => omega); rintro e w2 ⟨rfl, hb2⟩
          refine hK2.out _ _ ?hS405 (fun hH2 => ?_)
          case hS405 => ((try dsimp only); (first | exact keepB8 (by assumption) (by assumption) | exact keepB8 (below_al _ _) (by assumption)))
          clear hK2 K2
          (try clear hH1)
          (try simp only [Act.put, List.setIfInBounds_toArray, List.set_cons_zero, List.set_cons_succ])
          refine takeY (oi := { dst := some 16, op := Op.unOp UnOp.not 4 (Operand.tmp 15), type := 4, pos := "props.go:18", after := #[{ on := 3, ground := Ground.data }], guard := none }) 4 (some 16) (v := ?v4_406) rfl rfl (by kernel_rfl) (by kernel_rfl) (by kernel_rfl) (fun _ _ _ h => h) (by kernel_rfl) ?hy406 hH2 ?_
          case hy406 => (intro w_ hSw; (try dsimp only at hSw); go_simp; (first | done | with_reducible rfl | rw [if_neg (by omega)]))
          simp only [Act.put, List.setIfInBounds_toArray, List.set_cons_zero, List.set_cons_succ]
          refine takeY (oi := { dst := some 17, op := Op.move (Operand.tmp 16), type := 4, pos := "props.go:18", after := #[{ on := 4, ground := Ground.data }, { on := 3, ground := Ground.chain }], guard := none }) 5 (some 17) (v := ?v5_407) rfl rfl (by kernel_rfl) (by kernel_rfl) (by kernel_rfl) (fun _ _ _ h => h) (by kernel_rfl) ?hy407 hH2 ?_
          case hy407 => (intro w_ hSw; (try dsimp only at hSw); go_simp; (first | done | with_reducible rfl | rw [if_neg (by omega)]))
          simp only [Act.put, List.setIfInBounds_toArray, List.set_cons_zero, List.set_cons_succ]
          refine takeY (oi := { dst := some 18, op := Op.fieldAddr 117 (Operand.tmp 4) 1, type := 0, pos := "props.go:18", after := #[{ on := 5, ground := Ground.guard }], guard := some (5, false) }) 6 (some 18) (v := ?v6_408) rfl rfl (by kernel_rfl) (by kernel_rfl) (by kernel_rfl) (fun _ _ _ h => h) (by kernel_rfl) ?hy408 hH2 ?_
          case hy408 => (intro w_ hSw; (try dsimp only at hSw); go_simp; (first | done | with_reducible rfl | rw [if_neg (by omega)]))
          simp only [Act.put, List.setIfInBounds_toArray, List.set_cons_zero, List.set_cons_succ]
          refine takeY (oi := { dst := some 19, op := Op.load 42 (Operand.tmp 18), type := 42, pos := "props.go:18", after := #[{ on := 6, ground := Ground.data }, { on := 5, ground := Ground.guard }], guard := some (5, false) }) 7 (some 19) (v := ?v7_409) rfl rfl (by kernel_rfl) (by kernel_rfl) (by kernel_rfl) (fun _ _ _ h => h) (by kernel_rfl) ?hy409 hH2 ?_
          case hy409 => (intro w_ hSw; (try dsimp only at hSw); go_simp; (first | done | with_reducible rfl | rw [if_neg (by omega)]))
          simp only [Act.put, List.setIfInBounds_toArray, List.set_cons_zero, List.set_cons_succ]
          refine wpAnyH_ready (rs := [8]) (by kernel_rfl) (by simp) ?_
          refine AllReadyH.cons (o := { dst := some 20, op := Op.buildSlice 188 1 #[(0, Operand.tmp 19)], type := 188, pos := "props.go:18", after := #[{ on := 7, ground := Ground.data }, { on := 5, ground := Ground.guard }], guard := some (5, false) }) rfl (fun K3 hK3 => ?_) AllReadyH.nil
          go_simp
          refine hK3.out _ _ ?hS410 (fun hH3 => ?_)
          case hS410 => ((try dsimp only); (first | exact keepB8 (by assumption) (by assumption) | exact keepB8 (below_al _ _) (by assumption)))
          clear hK3 K3
          (try clear hH2)
          (try simp only [Act.put, List.setIfInBounds_toArray, List.set_cons_zero, List.set_cons_succ])
          refine wpAnyH_ready (rs := [9]) (by kernel_rfl) (by simp) ?_
          refine AllReadyH.cons (o := { dst := some 21, op := Op.call { callee := Callee.value (Operand.func 116), args := #[Operand.tmp 20], argTypes := #[188] }, type := 4, pos := "props.go:18", after := #[{ on := 8, ground := Ground.data }, { on := 5, ground := Ground.chain }, { on := 5, ground := Ground.guard }], guard := some (5, false) }) rfl (fun K4 hK4 => ?_) AllReadyH.nil
          go_simp; refine (value_Right_one _ 1 ⟨y1, y2, y3⟩ _ ?hC true hV).mono ?_; (case hC => exact C_boxg kValue (by decide) _ _ (by simp) ⟨y1, y2, y3⟩ #[.int .i64 y1, .int .i64 y2, .string y3] _ (kValue_mk _ _)); rintro e w3 ⟨rfl, hb3⟩
          refine hK4.out _ _ ?hS411 (fun hH4 => ?_)
          case hS411 => ((try dsimp only); (first | exact keepB8 (by assumption) (by assumption) | exact keepB8 (below_al _ _) (by assumption)))
          clear hK4 K4
          (try clear hH3)
          (try simp only [Act.put, List.setIfInBounds_toArray, List.set_cons_zero, List.set_cons_succ])
          refine takeY (oi := { dst := some 22, op := Op.unOp UnOp.not 4 (Operand.tmp 21), type := 4, pos := "props.go:18", after := #[{ on := 9, ground := Ground.data }, { on := 5, ground := Ground.guard }], guard := some (5, false) }) 10 (some 22) (v := ?v10_412) rfl rfl (by kernel_rfl) (by kernel_rfl) (by kernel_rfl) (fun _ _ _ h => h) (by kernel_rfl) ?hy412 hH4 ?_
          case hy412 => (intro w_ hSw; (try dsimp only at hSw); go_simp; (first | done | with_reducible rfl | rw [if_neg (by omega)]))
          simp only [Act.put, List.setIfInBounds_toArray, List.set_cons_zero, List.set_cons_succ]
          refine takeY (oi := { dst := some 23, op := Op.pick (Operand.tmp 17) (Operand.const (Value.bool true)) (Operand.tmp 22), type := 4, pos := "props.go:18", after := #[{ on := 5, ground := Ground.data }, { on := 10, ground := Ground.data }], guard := none }) 11 (some 23) (v := ?v11_413) rfl rfl (by kernel_rfl) (by kernel_rfl) (by kernel_rfl) (fun _ _ _ h => h) (by kernel_rfl) ?hy413 hH4 ?_
          case hy413 => (intro w_ hSw; (try dsimp only at hSw); go_simp; (first | done | with_reducible rfl | rw [if_neg (by omega)]))
          simp only [Act.put, List.setIfInBounds_toArray, List.set_cons_zero, List.set_cons_succ]
          refine takeY (oi := { dst := some 24, op := Op.move (Operand.tmp 23), type := 4, pos := "props.go:18", after := #[{ on := 11, ground := Ground.data }, { on := 9, ground := Ground.chain }], guard := none }) 12 (some 24) (v := ?v12_414) rfl rfl (by kernel_rfl) (by kernel_rfl) (by kernel_rfl) (fun _ _ _ h => h) (by kernel_rfl) ?hy414 hH4 ?_
          case hy414 => (intro w_ hSw; (try dsimp only at hSw); go_simp; (first | done | with_reducible rfl | rw [if_neg (by omega)]))
          simp only [Act.put, List.setIfInBounds_toArray, List.set_cons_zero, List.set_cons_succ]
          refine takeY (oi := { dst := some 25, op := Op.move (Operand.tmp 3), type := 3, pos := "props.go:18", after := #[{ on := 12, ground := Ground.guard }], guard := some (12, false) }) 13 (some 25) (v := ?v13_415) rfl rfl (by kernel_rfl) (by kernel_rfl) (by kernel_rfl) (fun _ _ _ h => h) (by kernel_rfl) ?hy415 hH4 ?_
          case hy415 => (intro w_ hSw; (try dsimp only at hSw); go_simp; (first | done | with_reducible rfl | rw [if_neg (by omega)]))
          simp only [Act.put, List.setIfInBounds_toArray, List.set_cons_zero, List.set_cons_succ]
          refine takeY (oi := { dst := some 26, op := Op.binOp BinOp.gtr 3 (Operand.tmp 25) (Operand.const (Value.int IntKind.i64 0)) 3, type := 4, pos := "props.go:18", after := #[{ on := 13, ground := Ground.data }, { on := 12, ground := Ground.guard }], guard := some (12, false) }) 14 (some 26) (v := ?v14_416) rfl rfl (by kernel_rfl) (by kernel_rfl) (by kernel_rfl) (fun _ _ _ h => h) (by kernel_rfl) ?hy416 hH4 ?_
          case hy416 => (intro w_ hSw; (try dsimp only at hSw); go_simp; (first | done | with_reducible rfl | rw [if_neg (by omega)]))
          simp only [Act.put, List.setIfInBounds_toArray, List.set_cons_zero, List.set_cons_succ]
          refine takeY (oi := { dst := some 27, op := Op.move (Operand.tmp 26), type := 4, pos := "props.go:18", after := #[{ on := 14, ground := Ground.data }, { on := 12, ground := Ground.chain }, { on := 12, ground := Ground.guard }], guard := some (12, false) }) 15 (some 27) (v := ?v15_417) rfl rfl (by kernel_rfl) (by kernel_rfl) (by kernel_rfl) (fun _ _ _ h => h) (by kernel_rfl) ?hy417 hH4 ?_
          case hy417 => (intro w_ hSw; (try dsimp only at hSw); go_simp; (first | done | with_reducible rfl | rw [if_neg (by omega)]))
          simp only [Act.put, List.setIfInBounds_toArray, List.set_cons_zero, List.set_cons_succ]
          refine takeY (oi := { dst := some 28, op := Op.move (Operand.tmp 0), type := 22, pos := "props.go:18", after := #[{ on := 15, ground := Ground.guard }], guard := some (15, true) }) 16 (some 28) (v := ?v16_418) rfl rfl (by kernel_rfl) (by kernel_rfl) (by kernel_rfl) (fun _ _ _ h => h) (by kernel_rfl) ?hy418 hH4 ?_
          case hy418 => (intro w_ hSw; (try dsimp only at hSw); go_simp; (first | done | with_reducible rfl | rw [if_neg (by omega)]))
          simp only [Act.put, List.setIfInBounds_toArray, List.set_cons_zero, List.set_cons_succ]
          refine takeY (oi := { dst := some 29, op := Op.move (Operand.tmp 3), type := 3, pos := "props.go:18", after := #[{ on := 15, ground := Ground.guard }], guard := some (15, true) }) 17 (some 29) (v := ?v17_419) rfl rfl (by kernel_rfl) (by kernel_rfl) (by kernel_rfl) (fun _ _ _ h => h) (by kernel_rfl) ?hy419 hH4 ?_
          case hy419 => (intro w_ hSw; (try dsimp only at hSw); go_simp; (first | done | with_reducible rfl | rw [if_neg (by omega)]))
          simp only [Act.put, List.setIfInBounds_toArray, List.set_cons_zero, List.set_cons_succ]
          refine takeY (oi := { dst := some 30, op := Op.binOp BinOp.sub 3 (Operand.tmp 29) (Operand.const (Value.int IntKind.i64 1)) 3, type := 3, pos := "props.go:18", after := #[{ on := 17, ground := Ground.data }, { on := 15, ground := Ground.guard }], guard := some (15, true) }) 18 (some 30) (v := ?v18_420) rfl rfl (by kernel_rfl) (by kernel_rfl) (by kernel_rfl) (fun _ _ _ h => h) (by kernel_rfl) ?hy420 hH4 ?_
          case hy420 => (intro w_ hSw; (try dsimp only at hSw); go_simp; (first | done | with_reducible rfl | rw [if_neg (by omega)]))
          simp only [Act.put, List.setIfInBounds_toArray, List.set_cons_zero, List.set_cons_succ]
          refine takeY (oi := { dst := some 31, op := Op.indexAddr 22 (Operand.tmp 28) (Operand.tmp 30), type := 0, pos := "props.go:18", after := #[{ on := 16, ground := Ground.data }, { on := 18, ground := Ground.data }, { on := 15, ground := Ground.guard }], guard := some (15, true) }) 19 (some 31) (v := ?v19_421) rfl rfl (by kernel_rfl) (by kernel_rfl) (by kernel_rfl) (fun _ _ _ h => h) (by kernel_rfl) ?hy421 hH4 ?_
          case hy421 => (intro w_ hSw; (try dsimp only at hSw); go_simp; (first | done | with_reducible rfl | rw [if_neg (by omega)]))
          simp only [Act.put, List.setIfInBounds_toArray, List.set_cons_zero, List.set_cons_succ]
          refine takeY (oi := { dst := some 32, op := Op.load 117 (Operand.tmp 31), type := 117, pos := "props.go:18", after := #[{ on := 19, ground := Ground.data }, { on := 15, ground := Ground.guard }], guard := some (15, true) }) 20 (some 32) (v := ?v20_422) rfl rfl (by kernel_rfl) (by kernel_rfl) (by kernel_rfl) (fun _ _ _ h => h) (by kernel_rfl) ?hy422 hH4 ?_
          case hy422 => (intro w_ hSw; (try dsimp only at hSw); go_simp; (first | done | with_reducible rfl | rw [if_neg (by omega)]))
          simp only [Act.put, List.setIfInBounds_toArray, List.set_cons_zero, List.set_cons_succ]
          refine takeY (oi := { dst := some 33, op := Op.fieldAddr 117 (Operand.tmp 4) 0, type := 0, pos := "props.go:18", after := #[{ on := 15, ground := Ground.guard }], guard := some (15, true) }) 21 (some 33) (v := ?v21_423) rfl rfl (by kernel_rfl) (by kernel_rfl) (by kernel_rfl) (fun _ _ _ h => h) (by kernel_rfl) ?hy423 hH4 ?_
          case hy423 => (intro w_ hSw; (try dsimp only at hSw); go_simp; (first | done | with_reducible rfl | rw [if_neg (by omega)]))
          simp only [Act.put, List.setIfInBounds_toArray, List.set_cons_zero, List.set_cons_succ]
          refine takeY (oi := { dst := some 34, op := Op.load 9 (Operand.tmp 33), type := 9, pos := "props.go:18", after := #[{ on := 21, ground := Ground.data }, { on := 15, ground := Ground.guard }], guard := some (15, true) }) 22 (some 34) (v := ?v22_424) rfl rfl (by kernel_rfl) (by kernel_rfl) (by kernel_rfl) (fun _ _ _ h => h) (by kernel_rfl) ?hy424 hH4 ?_
          case hy424 => (intro w_ hSw; (try dsimp only at hSw); go_simp; (first | done | with_reducible rfl | rw [if_neg (by omega)]))
          simp only [Act.put, List.setIfInBounds_toArray, List.set_cons_zero, List.set_cons_succ]
          refine wpAnyH_ready (rs := [23]) (by kernel_rfl) (by simp) ?_
          refine AllReadyH.cons (o := { dst := some 35, op := Op.call { callee := Callee.value (Operand.func 117), args := #[Operand.tmp 32, Operand.tmp 34], argTypes := #[117, 9] }, type := 3, pos := "props.go:18", after := #[{ on := 20, ground := Ground.data }, { on := 22, ground := Ground.data }, { on := 15, ground := Ground.chain }, { on := 15, ground := Ground.guard }], guard := some (15, true) }) rfl (fun K5 hK5 => ?_) AllReadyH.nil
          go_simp; refine (props_by_calls _ _ _ _ _ _ (by omega) (by omega)).mono ?_; rintro e w4 ⟨rfl, hb4⟩
          refine hK5.out _ _ ?hS425 (fun hH5 => ?_)
          case hS425 => ((try dsimp only); (first | exact keepB8 (by assumption) (by assumption) | exact keepB8 (below_al _ _) (by assumption)))
          clear hK5 K5
          (try clear hH4)
          (try simp only [Act.put, List.setIfInBounds_toArray, List.set_cons_zero, List.set_cons_succ])
          refine takeY (oi := { dst := some 36, op := Op.binOp BinOp.geq 3 (Operand.tmp 35) (Operand.const (Value.int IntKind.i64 0)) 3, type := 4, pos := "props.go:18", after := #[{ on := 23, ground := Ground.data }, { on := 15, ground := Ground.guard }], guard := some (15, true) }) 24 (some 36) (v := ?v24_426) rfl rfl (by kernel_rfl) (by kernel_rfl) (by kernel_rfl) (fun _ _ _ h => h) (by kernel_rfl) ?hy426 hH5 ?_
          case hy426 => (intro w_ hSw; (try dsimp only at hSw); go_simp; (first | done | with_reducible rfl | rw [if_neg (by omega)]))
          simp only [Act.put, List.setIfInBounds_toArray, List.set_cons_zero, List.set_cons_succ]
          refine takeY (oi := { dst := some 37, op := Op.pick (Operand.tmp 27) (Operand.tmp 36) (Operand.const (Value.bool false)), type := 4, pos := "props.go:18", after := #[{ on := 15, ground := Ground.data }, { on := 24, ground := Ground.data }, { on := 12, ground := Ground.guard }], guard := some (12, false) }) 25 (some 37) (v := ?v25_427) rfl rfl (by kernel_rfl) (by kernel_rfl) (by kernel_rfl) (fun _ _ _ h => h) (by kernel_rfl) ?hy427 hH5 ?_
          case hy427 => (intro w_ hSw; (try dsimp only at hSw); go_simp; (first | done | with_reducible rfl | rw [if_neg (by omega)]))
          simp only [Act.put, List.setIfInBounds_toArray, List.set_cons_zero, List.set_cons_succ]
          refine takeY (oi := { dst := some 38, op := Op.pick (Operand.tmp 24) (Operand.const (Value.bool true)) (Operand.tmp 37), type := 4, pos := "props.go:18", after := #[{ on := 12, ground := Ground.data }, { on := 25, ground := Ground.data }], guard := none }) 26 (some 38) (v := ?v26_428) rfl rfl (by kernel_rfl) (by kernel_rfl) (by kernel_rfl) (fun _ _ _ h => h) (by kernel_rfl) ?hy428 hH5 ?_
          case hy428 => (intro w_ hSw; (try dsimp only at hSw); go_simp; (first | done | with_reducible rfl | rw [if_neg (by omega)]))
          simp only [Act.put, List.setIfInBounds_toArray, List.set_cons_zero, List.set_cons_succ]
          refine wpAnyH_done (by kernel_rfl) ?_ _
          have hEnd := hH5
          clear hH5
          have HB2 := Lib.hid (hEnd.2.2.2.2.2.2.2.2)
          go_wp2
          go_roundw
          case rel => exact ⟨m + 1 + 1, by omega, by go_num, HB2, Lib.hid (by rw [← HS2.out]; exact HI.out)⟩
          case measure => simp [intOf]; omega
        · have HE := Lib.hid (propsRight_no (by rw [← HI.out, HS.out, hN, hV, HP.out]; simp [hC]))
          go_wp2_with fail
          refine wp_region_held_drew (S := (fun w' => w'.cell? ⟨wr.heap.size, 0, none⟩ = some (.string y0) ∧ w'.cell? ⟨wr.heap.size, 1, none⟩ = some (.int .i64 y1) ∧ w'.cell? ⟨wr.heap.size, 2, none⟩ = some (.int .i64 y2) ∧ w'.cell? ⟨wr.heap.size, 3, none⟩ = some (.string y3) ∧ w'.cell? (ad.add (m * 4)) = some (.string x0) ∧ w'.cell? ⟨(ad.add (m * 4)).block, (ad.add (m * 4)).off + 1, none⟩ = some (.int .i64 x1) ∧ w'.cell? ⟨(ad.add (m * 4)).block, (ad.add (m * 4)).off + 2, none⟩ = some (.int .i64 x2) ∧ w'.cell? ⟨(ad.add (m * 4)).block, (ad.add (m * 4)).off + 3, none⟩ = some (.string x3) ∧ Below w.heap.size w w')) (by kernel_rfl) ?hS501 (fun hH0 => ?_)
          case hS501 => refine ⟨by go_keep, by go_keep, by go_keep, by go_keep, by go_keep, by go_keep, by go_keep, by go_keep, below_drew (HB.out.alloc HB.out.size _)⟩
          refine takeY (oi := { dst := some 12, op := Op.fieldAddr 117 (Operand.tmp 4) 0, type := 0, pos := "props.go:18", after := #[], guard := none }) 0 (some 12) (v := ?v0_502) rfl rfl (by kernel_rfl) (by kernel_rfl) (by kernel_rfl) (fun _ _ _ h => h) (by kernel_rfl) ?hy502 hH0 ?_
          case hy502 => (intro w_ hSw; (try dsimp only at hSw); go_simp; (first | done | with_reducible rfl | rw [if_neg (by omega)]))
          simp only [Act.put, List.setIfInBounds_toArray, List.set_cons_zero, List.set_cons_succ]
          refine takeY (oi := { dst := some 13, op := Op.load 9 (Operand.tmp 12), type := 9, pos := "props.go:18", after := #[{ on := 0, ground := Ground.data }], guard := none }) 1 (some 13) (v := ?v1_503) rfl rfl (by kernel_rfl) (by kernel_rfl) (by kernel_rfl) (fun _ _ _ h => h) (by kernel_rfl) ?hy503 hH0 ?_
          case hy503 => (intro w_ hSw; (try dsimp only at hSw); go_simp; (first | done | with_reducible rfl | rw [if_neg (by omega)]))
          simp only [Act.put, List.setIfInBounds_toArray, List.set_cons_zero, List.set_cons_succ]
          refine wpAnyH_ready (rs := [2]) (by kernel_rfl) (by simp) ?_
          refine AllReadyH.cons (o := { dst := some 14, op := Op.buildSlice 174 1 #[(0, Operand.tmp 13)], type := 174, pos := "props.go:18", after := #[{ on := 1, ground := Ground.data }], guard := none }) rfl (fun K1 hK1 => ?_) AllReadyH.nil
          go_simp
          refine hK1.out _ _ ?hS504 (fun hH1 => ?_)
          case hS504 => ((try dsimp only); (first | exact keepB8 (by assumption) (by assumption) | exact keepB8 (below_al _ _) (by assumption)))
          clear hK1 K1
          (try clear hH0)
          (try simp only [Act.put, List.setIfInBounds_toArray, List.set_cons_zero, List.set_cons_succ])
          refine wpAnyH_ready (rs := [3]) (by kernel_rfl) (by simp) ?_
          refine AllReadyH.cons (o := { dst := some 15, op := Op.call { callee := Callee.value (Operand.func 85), args := #[Operand.tmp 14], argTypes := #[174] }, type := 4, pos := "props.go:18", after := #[{ on := 2, ground := Ground.data }], guard := none }) rfl (fun K2 hK2 => ?_) AllReadyH.nil
          go_simp; refine (letter_Right_one _ 1 y0 _ ?hC ?hs true hN).mono ?_; (case hC => exact C_boxd Kd.string (by decide) _ _ (by simp) y0 #[.string y0] _ rfl); (case hs => omega); rintro e w2 ⟨rfl, hb2⟩
          refine hK2.out _ _ ?hS505 (fun hH2 => ?_)
          case hS505 => ((try dsimp only); (first | exact keepB8 (by assumption) (by assumption) | exact keepB8 (below_al _ _) (by assumption)))
          clear hK2 K2
          (try clear hH1)
          (try simp only [Act.put, List.setIfInBounds_toArray, List.set_cons_zero, List.set_cons_succ])
          refine takeY (oi := { dst := some 16, op := Op.unOp UnOp.not 4 (Operand.tmp 15), type := 4, pos := "props.go:18", after := #[{ on := 3, ground := Ground.data }], guard := none }) 4 (some 16) (v := ?v4_506) rfl rfl (by kernel_rfl) (by kernel_rfl) (by kernel_rfl) (fun _ _ _ h => h) (by kernel_rfl) ?hy506 hH2 ?_
          case hy506 => (intro w_ hSw; (try dsimp only at hSw); go_simp; (first | done | with_reducible rfl | rw [if_neg (by omega)]))
          simp only [Act.put, List.setIfInBounds_toArray, List.set_cons_zero, List.set_cons_succ]
          refine takeY (oi := { dst := some 17, op := Op.move (Operand.tmp 16), type := 4, pos := "props.go:18", after := #[{ on := 4, ground := Ground.data }, { on := 3, ground := Ground.chain }], guard := none }) 5 (some 17) (v := ?v5_507) rfl rfl (by kernel_rfl) (by kernel_rfl) (by kernel_rfl) (fun _ _ _ h => h) (by kernel_rfl) ?hy507 hH2 ?_
          case hy507 => (intro w_ hSw; (try dsimp only at hSw); go_simp; (first | done | with_reducible rfl | rw [if_neg (by omega)]))
          simp only [Act.put, List.setIfInBounds_toArray, List.set_cons_zero, List.set_cons_succ]
          refine takeY (oi := { dst := some 18, op := Op.fieldAddr 117 (Operand.tmp 4) 1, type := 0, pos := "props.go:18", after := #[{ on := 5, ground := Ground.guard }], guard := some (5, false) }) 6 (some 18) (v := ?v6_508) rfl rfl (by kernel_rfl) (by kernel_rfl) (by kernel_rfl) (fun _ _ _ h => h) (by kernel_rfl) ?hy508 hH2 ?_
          case hy508 => (intro w_ hSw; (try dsimp only at hSw); go_simp; (first | done | with_reducible rfl | rw [if_neg (by omega)]))
          simp only [Act.put, List.setIfInBounds_toArray, List.set_cons_zero, List.set_cons_succ]
          refine takeY (oi := { dst := some 19, op := Op.load 42 (Operand.tmp 18), type := 42, pos := "props.go:18", after := #[{ on := 6, ground := Ground.data }, { on := 5, ground := Ground.guard }], guard := some (5, false) }) 7 (some 19) (v := ?v7_509) rfl rfl (by kernel_rfl) (by kernel_rfl) (by kernel_rfl) (fun _ _ _ h => h) (by kernel_rfl) ?hy509 hH2 ?_
          case hy509 => (intro w_ hSw; (try dsimp only at hSw); go_simp; (first | done | with_reducible rfl | rw [if_neg (by omega)]))
          simp only [Act.put, List.setIfInBounds_toArray, List.set_cons_zero, List.set_cons_succ]
          refine wpAnyH_ready (rs := [8]) (by kernel_rfl) (by simp) ?_
          refine AllReadyH.cons (o := { dst := some 20, op := Op.buildSlice 188 1 #[(0, Operand.tmp 19)], type := 188, pos := "props.go:18", after := #[{ on := 7, ground := Ground.data }, { on := 5, ground := Ground.guard }], guard := some (5, false) }) rfl (fun K3 hK3 => ?_) AllReadyH.nil
          go_simp
          refine hK3.out _ _ ?hS510 (fun hH3 => ?_)
          case hS510 => ((try dsimp only); (first | exact keepB8 (by assumption) (by assumption) | exact keepB8 (below_al _ _) (by assumption)))
          clear hK3 K3
          (try clear hH2)
          (try simp only [Act.put, List.setIfInBounds_toArray, List.set_cons_zero, List.set_cons_succ])
          refine wpAnyH_ready (rs := [9]) (by kernel_rfl) (by simp) ?_
          refine AllReadyH.cons (o := { dst := some 21, op := Op.call { callee := Callee.value (Operand.func 116), args := #[Operand.tmp 20], argTypes := #[188] }, type := 4, pos := "props.go:18", after := #[{ on := 8, ground := Ground.data }, { on := 5, ground := Ground.chain }, { on := 5, ground := Ground.guard }], guard := some (5, false) }) rfl (fun K4 hK4 => ?_) AllReadyH.nil
          go_simp; refine (value_Right_one _ 1 ⟨y1, y2, y3⟩ _ ?hC true hV).mono ?_; (case hC => exact C_boxg kValue (by decide) _ _ (by simp) ⟨y1, y2, y3⟩ #[.int .i64 y1, .int .i64 y2, .string y3] _ (kValue_mk _ _)); rintro e w3 ⟨rfl, hb3⟩
          refine hK4.out _ _ ?hS511 (fun hH4 => ?_)
          case hS511 => ((try dsimp only); (first | exact keepB8 (by assumption) (by assumption) | exact keepB8 (below_al _ _) (by assumption)))
          clear hK4 K4
          (try clear hH3)
          (try simp only [Act.put, List.setIfInBounds_toArray, List.set_cons_zero, List.set_cons_succ])
          refine takeY (oi := { dst := some 22, op := Op.unOp UnOp.not 4 (Operand.tmp 21), type := 4, pos := "props.go:18", after := #[{ on := 9, ground := Ground.data }, { on := 5, ground := Ground.guard }], guard := some (5, false) }) 10 (some 22) (v := ?v10_512) rfl rfl (by kernel_rfl) (by kernel_rfl) (by kernel_rfl) (fun _ _ _ h => h) (by kernel_rfl) ?hy512 hH4 ?_
          case hy512 => (intro w_ hSw; (try dsimp only at hSw); go_simp; (first | done | with_reducible rfl | rw [if_neg (by omega)]))
          simp only [Act.put, List.setIfInBounds_toArray, List.set_cons_zero, List.set_cons_succ]
          refine takeY (oi := { dst := some 23, op := Op.pick (Operand.tmp 17) (Operand.const (Value.bool true)) (Operand.tmp 22), type := 4, pos := "props.go:18", after := #[{ on := 5, ground := Ground.data }, { on := 10, ground := Ground.data }], guard := none }) 11 (some 23) (v := ?v11_513) rfl rfl (by kernel_rfl) (by kernel_rfl) (by kernel_rfl) (fun _ _ _ h => h) (by kernel_rfl) ?hy513 hH4 ?_
          case hy513 => (intro w_ hSw; (try dsimp only at hSw); go_simp; (first | done | with_reducible rfl | rw [if_neg (by omega)]))
          simp only [Act.put, List.setIfInBounds_toArray, List.set_cons_zero, List.set_cons_succ]
          refine takeY (oi := { dst := some 24, op := Op.move (Operand.tmp 23), type := 4, pos := "props.go:18", after := #[{ on := 11, ground := Ground.data }, { on := 9, ground := Ground.chain }], guard := none }) 12 (some 24) (v := ?v12_514) rfl rfl (by kernel_rfl) (by kernel_rfl) (by kernel_rfl) (fun _ _ _ h => h) (by kernel_rfl) ?hy514 hH4 ?_
          case hy514 => (intro w_ hSw; (try dsimp only at hSw); go_simp; (first | done | with_reducible rfl | rw [if_neg (by omega)]))
          simp only [Act.put, List.setIfInBounds_toArray, List.set_cons_zero, List.set_cons_succ]
          refine takeY (oi := { dst := some 25, op := Op.move (Operand.tmp 3), type := 3, pos := "props.go:18", after := #[{ on := 12, ground := Ground.guard }], guard := some (12, false) }) 13 (some 25) (v := ?v13_515) rfl rfl (by kernel_rfl) (by kernel_rfl) (by kernel_rfl) (fun _ _ _ h => h) (by kernel_rfl) ?hy515 hH4 ?_
          case hy515 => (intro w_ hSw; (try dsimp only at hSw); go_simp; (first | done | with_reducible rfl | rw [if_neg (by omega)]))
          simp only [Act.put, List.setIfInBounds_toArray, List.set_cons_zero, List.set_cons_succ]
          refine takeY (oi := { dst := some 26, op := Op.binOp BinOp.gtr 3 (Operand.tmp 25) (Operand.const (Value.int IntKind.i64 0)) 3, type := 4, pos := "props.go:18", after := #[{ on := 13, ground := Ground.data }, { on := 12, ground := Ground.guard }], guard := some (12, false) }) 14 (some 26) (v := ?v14_516) rfl rfl (by kernel_rfl) (by kernel_rfl) (by kernel_rfl) (fun _ _ _ h => h) (by kernel_rfl) ?hy516 hH4 ?_
          case hy516 => (intro w_ hSw; (try dsimp only at hSw); go_simp; (first | done | with_reducible rfl | rw [if_neg (by omega)]))
          simp only [Act.put, List.setIfInBounds_toArray, List.set_cons_zero, List.set_cons_succ]
          refine takeY (oi := { dst := some 27, op := Op.move (Operand.tmp 26), type := 4, pos := "props.go:18", after := #[{ on := 14, ground := Ground.data }, { on := 12, ground := Ground.chain }, { on := 12, ground := Ground.guard }], guard := some (12, false) }) 15 (some 27) (v := ?v15_517) rfl rfl (by kernel_rfl) (by kernel_rfl) (by kernel_rfl) (fun _ _ _ h => h) (by kernel_rfl) ?hy517 hH4 ?_
          case hy517 => (intro w_ hSw; (try dsimp only at hSw); go_simp; (first | done | with_reducible rfl | rw [if_neg (by omega)]))
          simp only [Act.put, List.setIfInBounds_toArray, List.set_cons_zero, List.set_cons_succ]
          refine takeY (oi := { dst := some 28, op := Op.move (Operand.tmp 0), type := 22, pos := "props.go:18", after := #[{ on := 15, ground := Ground.guard }], guard := some (15, true) }) 16 (some 28) (v := ?v16_518) rfl rfl (by kernel_rfl) (by kernel_rfl) (by kernel_rfl) (fun _ _ _ h => h) (by kernel_rfl) ?hy518 hH4 ?_
          case hy518 => (intro w_ hSw; (try dsimp only at hSw); go_simp; (first | done | with_reducible rfl | rw [if_neg (by omega)]))
          simp only [Act.put, List.setIfInBounds_toArray, List.set_cons_zero, List.set_cons_succ]
          refine takeY (oi := { dst := some 29, op := Op.move (Operand.tmp 3), type := 3, pos := "props.go:18", after := #[{ on := 15, ground := Ground.guard }], guard := some (15, true) }) 17 (some 29) (v := ?v17_519) rfl rfl (by kernel_rfl) (by kernel_rfl) (by kernel_rfl) (fun _ _ _ h => h) (by kernel_rfl) ?hy519 hH4 ?_
          case hy519 => (intro w_ hSw; (try dsimp only at hSw); go_simp; (first | done | with_reducible rfl | rw [if_neg (by omega)]))
          simp only [Act.put, List.setIfInBounds_toArray, List.set_cons_zero, List.set_cons_succ]
          refine takeY (oi := { dst := some 30, op := Op.binOp BinOp.sub 3 (Operand.tmp 29) (Operand.const (Value.int IntKind.i64 1)) 3, type := 3, pos := "props.go:18", after := #[{ on := 17, ground := Ground.data }, { on := 15, ground := Ground.guard }], guard := some (15, true) }) 18 (some 30) (v := ?v18_520) rfl rfl (by kernel_rfl) (by kernel_rfl) (by kernel_rfl) (fun _ _ _ h => h) (by kernel_rfl) ?hy520 hH4 ?_
          case hy520 => (intro w_ hSw; (try dsimp only at hSw); go_simp; (first | done | with_reducible rfl | rw [if_neg (by omega)]))
          simp only [Act.put, List.setIfInBounds_toArray, List.set_cons_zero, List.set_cons_succ]
          refine takeY (oi := { dst := some 31, op := Op.indexAddr 22 (Operand.tmp 28) (Operand.tmp 30), type := 0, pos := "props.go:18", after := #[{ on := 16, ground := Ground.data }, { on := 18, ground := Ground.data }, { on := 15, ground := Ground.guard }], guard := some (15, true) }) 19 (some 31) (v := ?v19_521) rfl rfl (by kernel_rfl) (by kernel_rfl) (by kernel_rfl) (fun _ _ _ h => h) (by kernel_rfl) ?hy521 hH4 ?_
          case hy521 => (intro w_ hSw; (try dsimp only at hSw); go_simp; (first | done | with_reducible rfl | rw [if_neg (by omega)]))
          simp only [Act.put, List.setIfInBounds_toArray, List.set_cons_zero, List.set_cons_succ]
          refine takeY (oi := { dst := some 32, op := Op.load 117 (Operand.tmp 31), type := 117, pos := "props.go:18", after := #[{ on := 19, ground := Ground.data }, { on := 15, ground := Ground.guard }], guard := some (15, true) }) 20 (some 32) (v := ?v20_522) rfl rfl (by kernel_rfl) (by kernel_rfl) (by kernel_rfl) (fun _ _ _ h => h) (by kernel_rfl) ?hy522 hH4 ?_
          case hy522 => (intro w_ hSw; (try dsimp only at hSw); go_simp; (first | done | with_reducible rfl | rw [if_neg (by omega)]))
          simp only [Act.put, List.setIfInBounds_toArray, List.set_cons_zero, List.set_cons_succ]
          refine takeY (oi := { dst := some 33, op := Op.fieldAddr 117 (Operand.tmp 4) 0, type := 0, pos := "props.go:18", after := #[{ on := 15, ground := Ground.guard }], guard := some (15, true) }) 21 (some 33) (v := ?v21_523) rfl rfl (by kernel_rfl) (by kernel_rfl) (by kernel_rfl) (fun _ _ _ h => h) (by kernel_rfl) ?hy523 hH4 ?_
          case hy523 => (intro w_ hSw; (try dsimp only at hSw); go_simp; (first | done | with_reducible rfl | rw [if_neg (by omega)]))
          simp only [Act.put, List.setIfInBounds_toArray, List.set_cons_zero, List.set_cons_succ]
          refine takeY (oi := { dst := some 34, op := Op.load 9 (Operand.tmp 33), type := 9, pos := "props.go:18", after := #[{ on := 21, ground := Ground.data }, { on := 15, ground := Ground.guard }], guard := some (15, true) }) 22 (some 34) (v := ?v22_524) rfl rfl (by kernel_rfl) (by kernel_rfl) (by kernel_rfl) (fun _ _ _ h => h) (by kernel_rfl) ?hy524 hH4 ?_
          case hy524 => (intro w_ hSw; (try dsimp only at hSw); go_simp; (first | done | with_reducible rfl | rw [if_neg (by omega)]))
          simp only [Act.put, List.setIfInBounds_toArray, List.set_cons_zero, List.set_cons_succ]
          refine wpAnyH_ready (rs := [23]) (by kernel_rfl) (by simp) ?_
          refine AllReadyH.cons (o := { dst := some 35, op := Op.call { callee := Callee.value (Operand.func 117), args := #[Operand.tmp 32, Operand.tmp 34], argTypes := #[117, 9] }, type := 3, pos := "props.go:18", after := #[{ on := 20, ground := Ground.data }, { on := 22, ground := Ground.data }, { on := 15, ground := Ground.chain }, { on := 15, ground := Ground.guard }], guard := some (15, true) }) rfl (fun K5 hK5 => ?_) AllReadyH.nil
          go_simp; refine (props_by_calls _ _ _ _ _ _ (by omega) (by omega)).mono ?_; rintro e w4 ⟨rfl, hb4⟩
          refine hK5.out _ _ ?hS525 (fun hH5 => ?_)
          case hS525 => ((try dsimp only); (first | exact keepB8 (by assumption) (by assumption) | exact keepB8 (below_al _ _) (by assumption)))
          clear hK5 K5
          (try clear hH4)
          (try simp only [Act.put, List.setIfInBounds_toArray, List.set_cons_zero, List.set_cons_succ])
          refine takeY (oi := { dst := some 36, op := Op.binOp BinOp.geq 3 (Operand.tmp 35) (Operand.const (Value.int IntKind.i64 0)) 3, type := 4, pos := "props.go:18", after := #[{ on := 23, ground := Ground.data }, { on := 15, ground := Ground.guard }], guard := some (15, true) }) 24 (some 36) (v := ?v24_526) rfl rfl (by kernel_rfl) (by kernel_rfl) (by kernel_rfl) (fun _ _ _ h => h) (by kernel_rfl) ?hy526 hH5 ?_
          case hy526 => (intro w_ hSw; (try dsimp only at hSw); go_simp; (first | done | with_reducible rfl | rw [if_neg (by omega)]))
          simp only [Act.put, List.setIfInBounds_toArray, List.set_cons_zero, List.set_cons_succ]
          refine takeY (oi := { dst := some 37, op := Op.pick (Operand.tmp 27) (Operand.tmp 36) (Operand.const (Value.bool false)), type := 4, pos := "props.go:18", after := #[{ on := 15, ground := Ground.data }, { on := 24, ground := Ground.data }, { on := 12, ground := Ground.guard }], guard := some (12, false) }) 25 (some 37) (v := ?v25_527) rfl rfl (by kernel_rfl) (by kernel_rfl) (by kernel_rfl) (fun _ _ _ h => h) (by kernel_rfl) ?hy527 hH5 ?_
          case hy527 => (intro w_ hSw; (try dsimp only at hSw); go_simp; (first | done | with_reducible rfl | rw [if_neg (by omega)]))
          simp only [Act.put, List.setIfInBounds_toArray, List.set_cons_zero, List.set_cons_succ]
          refine takeY (oi := { dst := some 38, op := Op.pick (Operand.tmp 24) (Operand.const (Value.bool true)) (Operand.tmp 37), type := 4, pos := "props.go:18", after := #[{ on := 12, ground := Ground.data }, { on := 25, ground := Ground.data }], guard := none }) 26 (some 38) (v := ?v26_528) rfl rfl (by kernel_rfl) (by kernel_rfl) (by kernel_rfl) (fun _ _ _ h => h) (by kernel_rfl) ?hy528 hH5 ?_
          case hy528 => (intro w_ hSw; (try dsimp only at hSw); go_simp; (first | done | with_reducible rfl | rw [if_neg (by omega)]))
          simp only [Act.put, List.setIfInBounds_toArray, List.set_cons_zero, List.set_cons_succ]
          refine wpAnyH_done (by kernel_rfl) ?_ _
          have hEnd := hH5
          clear hH5
          have HB2 := Lib.hid (hEnd.2.2.2.2.2.2.2.2)
          go_wp2
          go_ret
          exact ⟨ret_bool HE.out.symm, HB2.out⟩
    · have hlt2 : ¬ (k : Int) < (l.length : Int) := by omega
      go_wp2
      go_ret
      refine ⟨ret_bool ?_, HB.out⟩
      have := HI.out
      rw [List.drop_eq_nil_of_le (by omega)] at this
      unfold propsRight
      rw [← this, propsFrom, Bool.true_and, Bool.eq_iff_iff]
      simp
      omega
end Go.Proofs.Ytonbnlfijmapfaa
/- graph.Check: what may be. No condition but on sizes. -/
namespace Go.Proofs.Ytonbnlfijmapfaa
open Go.RowKit Go.Shelf Go.Proofs.YtonbnlfijmapfaaW.PrintWords
set_option linter.unusedVariables false
set_option linter.unusedSimpArgs false

def idOk (n : Int) : Bool := decide (0 ≤ n) && decide (n < 1099511627776)

set_option maxHeartbeats 1000000 in
theorem graph_Check1_calls (n : Int) (w : World) :
    Calls Try.prog 84 #[.int .i64 n] w fun e w' => e = .returned (.bool (!idOk n)) ∧ w = w' := by
  go_enter Try.func84, Try.ntmps84
  go_wp2
  all_goals (go_ret; refine ⟨ret_bool ?_, rfl⟩; go_tidy; rw [Bool.eq_iff_iff]; first | (simp [idOk]; done) | (simp [idOk]; omega))

theorem enters_Check1 : ∀ args w, (callFunc 84 args).run Try.prog w = .ok (.enter 84 args) w := enters_of Try.func84 (by kernel_rfl) rfl

/-- What graph.Check answers. -/
def checkN (label : ByteArray) (ps : List SPrp) (ids : List Int) : Int := if ids.all idOk = true then (if nameRight label = true then (if propsRight ps = true then 0 else 10) else 30) else 2

set_option maxHeartbeats 1000000 in
theorem graph_Check_calls (label : ByteArray) (A B : Option Addr) (c d : Nat) (ps : List SPrp) (ids : List Int) (w : World) (hl : label.size ≤ 2000000) (hp : kPrp.C w A ps.length ps) (hf : fits ps) (hi : (Kd.int .i64).C w B ids.length ids) :
    Calls Try.prog 46 #[.string label, .slice A ps.length c, .slice B ids.length d] w fun e w' => e = .returned (.int .i64 (checkN label ps ids)) ∧ Below w.heap.size w w' := by
  have HPr : Hid (PredOn Try.prog 84 #[] (.int .i64) (fun n => !idOk n) w ids) := Lib.hid fun W x hx hB => (graph_Check1_calls x W).mono fun e w' ⟨he, hw⟩ => ⟨he, by subst hw; exact Below.refl _ _⟩
  have HP := Lib.hid hp; clear hp
  have HI := Lib.hid hi; clear hi
  have HF := Lib.hid hf; clear hf
  have ha : (ids.any fun n => !idOk n) = !ids.all idOk := by rw [List.any_eq_not_all_not]; simp
  cases h1 : ids.all idOk with
  | false =>
    rw [h1] at ha
    go_enter Try.func46, Try.ntmps46
    go_wp2_with (go_at_call 83; refine (ContainsFunc_int_calls 84 #[] enters_Check1 _ B d ids w HI.out HPr.out).mono ?_; rintro e w1 ⟨rfl, hb1⟩)
    go_ret
    exact ⟨ret_int (by unfold checkN; rw [h1]; rfl), hb1⟩
  | true =>
    rw [h1] at ha
    cases h2 : nameRight label with
    | false =>
      go_enter Try.func46, Try.ntmps46
      go_wp2_with (first
        | (go_at_call 83; refine (ContainsFunc_int_calls 84 #[] enters_Check1 _ B d ids w HI.out HPr.out).mono ?_; rintro e w1 ⟨rfl, hb1⟩)
        | (go_at_call 85; refine (letter_Right_one _ 1 label _ ?hC ?hs false h2).mono ?_; (case hC => exact C_boxg Kd.string (by decide) _ _ (by simp) label #[.string label] _ rfl); (case hs => omega); rintro e w2 ⟨rfl, hb2⟩))
      go_ret
      exact ⟨ret_int (by unfold checkN; rw [h1, h2]; rfl), keepB0 hb2 (keepB0 (below_al _ _) hb1)⟩
    | true =>
      go_enter Try.func46, Try.ntmps46
      go_wp2_with (first
        | (go_at_call 83; refine (ContainsFunc_int_calls 84 #[] enters_Check1 _ B d ids w HI.out HPr.out).mono ?_; rintro e w1 ⟨rfl, hb1⟩)
        | (go_at_call 85; refine (letter_Right_one _ 1 label _ ?hC ?hs true h2).mono ?_; (case hC => exact C_boxg Kd.string (by decide) _ _ (by simp) label #[.string label] _ rfl); (case hs => omega); rintro e w2 ⟨rfl, hb2⟩)
        | (go_at_call 86; have hq := keepB0 hb2 (keepB0 (below_al _ (.cells #[.string label] 9)) hb1); refine (props_Right_calls _ _ _ _ (Kd.C_below HP.out hq) HF.out).mono ?_; rintro e w3 ⟨rfl, hb3⟩))
      all_goals
        go_ret
        refine ⟨ret_int ?_, keepB0 hb3 hq⟩
        go_tidy
        unfold checkN
        rw [h1, h2]
        simp_all
end Go.Proofs.Ytonbnlfijmapfaa
/- Plain numbers: a number's bytes. No condition. -/
namespace Go.Proofs.Ytonbnlfijmapfaa
open Go

/-- Byte number j, from the greatest, of a number of eight bytes. -/
def u8z (u : Int) (j : Nat) : Int := u / 2 ^ (56 - 8 * j) % 256
/-- A whole number's bytes. -/
def intBytes (n : Int) : List Int := 1 :: (List.range 8).map (u8z (n + 9223372036854775808))

theorem nat_xor_top (a : Nat) (h : a < 2 ^ 63) : a ^^^ 2 ^ 63 = 2 ^ 63 + a := by
  apply Nat.eq_of_testBit_eq
  intro i
  rw [Nat.testBit_xor, Nat.testBit_two_pow]
  rcases Nat.lt_trichotomy i 63 with h1 | h1 | h1
  · rw [Nat.testBit_two_pow_add_gt h1]
    have : ¬ 63 = i := by omega
    simp [this]
  · subst h1
    rw [Nat.testBit_two_pow_add_eq]
    simp
  · have e : ¬ 63 = i := by omega
    have h2 : 2 ^ 63 + a < 2 ^ i := by
      have : 2 ^ 64 ≤ 2 ^ i := Nat.pow_le_pow_right (by omega) (by omega)
      omega
    have h3 : a < 2 ^ i := by omega
    rw [Nat.testBit_lt_two_pow h2, Nat.testBit_lt_two_pow h3]
    simp [e]

theorem xor_top (n : Int) (h0 : -9223372036854775808 ≤ n) (h1 : n ≤ 9223372036854775807) :
    bits .xor .u64 (IntKind.u64.wrap n) 9223372036854775808 = n + 9223372036854775808 := by
  have hw : IntKind.u64.wrap n = n % 18446744073709551616 := by simp [IntKind.wrap, IntKind.bits, IntKind.signed]
  rw [hw]
  rw [u64_xor _ _ (by omega) (by omega) (by omega) (by omega)]
  by_cases hn : 0 ≤ n
  · have e : (n % 18446744073709551616).toNat = n.toNat := by omega
    rw [e]
    have := nat_xor_top n.toNat (by omega)
    rw [show ((9223372036854775808 : Int).toNat) = 2 ^ 63 from rfl, this]
    omega
  · have hb : (n + 9223372036854775808).toNat < 2 ^ 63 := by omega
    have e : (n % 18446744073709551616).toNat = 2 ^ 63 + (n + 9223372036854775808).toNat := by omega
    rw [e]
    have := nat_xor_top _ hb
    rw [show ((9223372036854775808 : Int).toNat) = 2 ^ 63 from rfl, ← this, Nat.xor_assoc, Nat.xor_self, Nat.xor_zero]
    omega

theorem intBytes_length (n : Int) : (intBytes n).length = 9 := by simp [intBytes]
theorem intBytes_take (n : Int) (j : Nat) (h : j < 8) : (intBytes n).take (j + 1 + 1) = (intBytes n).take (j + 1) ++ [u8z (n + 9223372036854775808) j] := by
  have : j = 0 ∨ j = 1 ∨ j = 2 ∨ j = 3 ∨ j = 4 ∨ j = 5 ∨ j = 6 ∨ j = 7 := by omega
  rcases this with rfl | rfl | rfl | rfl | rfl | rfl | rfl | rfl <;> rfl

/-- A text's letters, a 255 behind each 0. -/
def esc : List Int → List Int
  | [] => []
  | c :: t => if c = 0 then 0 :: 255 :: esc t else c :: esc t
theorem esc_append : ∀ (a b : List Int), esc (a ++ b) = esc a ++ esc b
  | [], b => rfl
  | c :: t, b => by
    rw [List.cons_append, esc, esc]
    split <;> simp [esc_append t b]
theorem esc_length : ∀ (a : List Int), (esc a).length ≤ 2 * a.length
  | [] => by simp [esc]
  | c :: t => by
    have := esc_length t
    rw [esc]; split <;> simp <;> omega
end Go.Proofs.Ytonbnlfijmapfaa
/- value.Bytes: what it answers at every value. No condition but on sizes. -/
namespace Go.Proofs.Ytonbnlfijmapfaa
open Go.RowKit Go.Shelf Go.Proofs.YtonbnlfijmapfaaW.PrintWords
set_option linter.unusedVariables false
set_option linter.unusedSimpArgs false

theorem ta_int (n : Int) (W : World) : (Instr.typeAssert (.iface 3 (.int .i64 n)) 20 3 true).run Try.prog W = .ok (.tuple #[.int .i64 n, .bool true]) W := by kernel_rfl
theorem ta_int_no (s : ByteArray) (W : World) : (Instr.typeAssert (.iface 9 (.string s)) 20 3 true).run Try.prog W = .ok (.tuple #[.int .i64 0, .bool false]) W := by kernel_rfl
theorem ta_string (s : ByteArray) (W : World) : (Instr.typeAssert (.iface 9 (.string s)) 20 9 true).run Try.prog W = .ok (.tuple #[.string s, .bool true]) W := by kernel_rfl
theorem ta_int_nil (W : World) : (Instr.typeAssert .nilIface 20 3 true).run Try.prog W = .ok (.tuple #[.int .i64 0, .bool false]) W := by kernel_rfl
theorem ta_string_nil (W : World) : (Instr.typeAssert .nilIface 20 9 true).run Try.prog W = .ok (.tuple #[.string ⟨#[]⟩, .bool false]) W := by kernel_rfl

/-- A slice of bytes, of the call's own, and an error. -/
def RetBytes (w : World) (l : List Int) (e : Ending) (w' : World) : Prop := ∃ v, e = .returned (.tuple #[v, .int .i64 0]) ∧ (Kd.int .u8).R 5 w' w.heap.size (fun _ => True) v l ∧ Below w.heap.size w w'

set_option maxHeartbeats 2000000 in
set_option maxRecDepth 100000 in
theorem value_Bytes_int (n : Int) (s : ByteArray) (w : World) (h0 : -9223372036854775808 ≤ n) (h1 : n ≤ 9223372036854775807) (hs : s.toList.isEmpty = true) :
    Calls Try.prog 72 #[.agg #[.int .i64 1, .int .i64 n, .string s]] w (RetBytes w (intBytes n)) := by
  have ht : thingV 1 n s = .iface 3 (.int .i64 n) := by unfold thingV; simp [hs]
  have q1 := ta_int n
  have HX := Lib.hid (xor_top n h0 h1)
  go_enter Try.func72, Try.ntmps72
  go_wp2_with (go_at_call 105; refine (value_thing_calls _ _ _ _).mono ?_; rw [ht]; rintro e w1 ⟨rfl, hb1⟩)
  have HB1 := Lib.hid (keepB0 hb1 (below_al w _)); clear hb1
  go_loopw [7, 8] (fun v7 v8 wr => ∃ (j : Nat), j ≤ 8 ∧ v8 = .int .i64 (56 - 8 * (j : Int)) ∧ Hid (Below w.heap.size w wr) ∧ Hid ((Kd.int .u8).R 5 wr w.heap.size (fun _ => True) v7 ((intBytes n).take (j + 1)))) (fun _ v8 _ => (intOf v8 + 8).toNat)
  case atStart => exact ⟨0, by omega, rfl, Lib.hid (keepB0 (below_al _ _) HB1.out), Lib.hid (R_box1 1 .u8 HB1.out.size)⟩
  case round =>
    obtain ⟨j, hj, rfl, HB, HR⟩ := hrel
    by_cases hlt : j < 8
    · have e1 : (0 : Int) ≤ 56 - 8 * (j : Int) := by omega
      have HT := Lib.hid (intBytes_take n j hlt)
      go_wp2_with (at_builtin; (refine app_one HR.out info_u8 Try.underlying46 (M_int _) (fun _ _ => trivial) HB.out.size ?aL rfl (by decide) (by decide) rfl rfl rfl rfl ?_); (case aL => have := List.length_take_le (j + 1) (intBytes n); omega); intro v2 w2 hR2 hb2 hg2 hat2)
      go_roundw
      case rel =>
        refine ⟨j + 1, by omega, by go_num, Lib.hid (HB.out.trans hb2), Lib.hid ?_⟩
        rw [HT.out]
        have e : u8z (n + 9223372036854775808) j = bits BinOp.xor IntKind.u64 (IntKind.u64.wrap n) 9223372036854775808 / 2 ^ (56 - 8 * j) % 256 := by rw [HX.out]; rfl
        rw [e]; exact hR2
      case measure => simp [intOf]; omega
    · have e1 : 56 - 8 * (j : Int) < 0 := by omega
      go_wp2
      go_ret2
      refine ⟨_, rfl, ?_, HB.out⟩
      have := HR.out
      rwa [List.take_of_length_le (by rw [intBytes_length]; omega)] at this

set_option maxHeartbeats 2000000 in
set_option maxRecDepth 100000 in
theorem value_Bytes_no (k n : Int) (s : ByteArray) (w : World) (h : valOk k n s = false) :
    Calls Try.prog 72 #[.agg #[.int .i64 k, .int .i64 n, .string s]] w fun e w' => e = .returned (.tuple #[.slice none 0 0, .int .i64 22]) ∧ Below w.heap.size w w' := by
  have ht : thingV k n s = .nilIface := by
    rcases thingV_cases k n s with h2 | h2 | h2
    · exact h2.2
    · rw [h] at h2; cases h2.1
    · rw [h] at h2; cases h2.1
  have q1 := ta_int_nil
  have q2 := ta_string_nil
  go_enter Try.func72, Try.ntmps72
  go_wp2_with (go_at_call 105; refine (value_thing_calls _ _ _ _).mono ?_; rw [ht]; rintro e w1 ⟨rfl, hb1⟩)
  go_ret2
  exact ⟨rfl, keepB0 hb1 (below_al w _)⟩

/-- The letters from a place on. -/
theorem bytesOf_drop (s : ByteArray) (k : Nat) (h : k < s.size) : (bytesOf s).take (k + 1) = (bytesOf s).take k ++ [((s[k]'h).toNat : Int)] := by
  have hl : k < (bytesOf s).length := by rw [bytesOf_length]; exact h
  rw [List.take_succ_eq_append_getElem hl]
  congr 1
  simp [bytesOf]
  rfl

theorem esc_zero (x : Int) (h : x = 0) : esc [x] = [0, 255] := by subst h; rfl
theorem esc_one (x : Int) (h : ¬ x = 0) : esc [x] = [x] := by simp [esc, h]

set_option maxHeartbeats 4000000 in
set_option maxRecDepth 100000 in
theorem value_Bytes_text (s : ByteArray) (w : World) (hs : (s.size : Int) ≤ 200) :
    Calls Try.prog 72 #[.agg #[.int .i64 2, .int .i64 0, .string s]] w (RetBytes w (2 :: (esc (bytesOf s) ++ [0, 0]))) := by
  have ht : thingV 2 0 s = .iface 9 (.string s) := by unfold thingV; simp; omega
  have q1 := ta_int_no s
  have q2 := ta_string s
  go_enter Try.func72, Try.ntmps72
  go_wp2_with (go_at_call 105; refine (value_thing_calls _ _ _ _).mono ?_; rw [ht]; rintro e w1 ⟨rfl, hb1⟩)
  have HB1 := Lib.hid (keepB0 hb1 (below_al w _)); clear hb1
  go_loopw [11, 46] (fun v11 v46 wr => ∃ (k : Nat), k ≤ s.size ∧ v46 = .int .i64 k ∧ Hid (Below w.heap.size w wr) ∧ Hid ((Kd.int .u8).R 5 wr w.heap.size (fun _ => True) v11 (2 :: esc ((bytesOf s).take k)))) (fun _ v46 _ => s.size - (intOf v46).toNat)
  case atStart => exact ⟨0, by omega, rfl, Lib.hid (keepB0 (below_al _ _) HB1.out), Lib.hid (R_box1 2 .u8 HB1.out.size)⟩
  case round =>
    obtain ⟨k, hk, rfl, HB, HR⟩ := hrel
    by_cases hlt : k < s.size
    · have hlt2 : (k : Int) < (s.size : Int) := by omega
      have HT := Lib.hid (bytesOf_drop s k hlt)
      have hl1 := esc_length ((bytesOf s).take k)
      have hl2 := List.length_take_le k (bytesOf s)
      by_cases hz : ((s[k]'hlt).toNat : Int) = 0
      · have HE := Lib.hid (esc_zero _ hz)
        go_wp2_with (first
          | (at_builtin; (refine app_one HR.out info_u8 Try.underlying46 (M_int _) (fun _ _ => trivial) HB.out.size ?aL rfl (by decide) (by decide) rfl rfl rfl rfl ?_); (case aL => simp; omega); intro v2 w2 hR2 hb2 hg2 hat2; have HR2 := Lib.hid hR2; have HB2 := Lib.hid (HB.out.trans hb2); clear hR2 HR)
          | (at_builtin; (refine app_one HR2.out info_u8 Try.underlying46 (M_int _) (fun _ _ => trivial) HB2.out.size ?aL rfl (by decide) (by decide) rfl rfl rfl rfl ?_); (case aL => simp; omega); intro v3 w3 hR3 hb3 hg3 hat3; have HR3 := Lib.hid hR3; clear hR3 HR2))
        go_roundw
        case rel =>
          refine ⟨k + 1, by omega, by go_num, Lib.hid (HB2.out.trans hb3), Lib.hid ?_⟩
          rw [HT.out, esc_append, HE.out]
          have := HR3.out
          simpa using this
        case measure => simp [intOf]; omega
      · have HE := Lib.hid (esc_one _ hz)
        go_wp2_with (at_builtin; (refine app_one HR.out info_u8 Try.underlying46 (M_int _) (fun _ _ => trivial) HB.out.size ?aL rfl (by decide) (by decide) rfl rfl rfl rfl ?_); (case aL => simp; omega); intro v2 w2 hR2 hb2 hg2 hat2; have HR2 := Lib.hid hR2; have HB2 := Lib.hid (HB.out.trans hb2); clear hR2 HR)
        go_roundw
        case rel =>
          refine ⟨k + 1, by omega, by go_num, HB2, Lib.hid ?_⟩
          rw [HT.out, esc_append, HE.out]
          have := HR2.out
          simpa using this
        case measure => simp [intOf]; omega
    · have hlt2 : ¬ (k : Int) < (s.size : Int) := by omega
      have HF := HR.out
      rw [List.take_of_length_le (by rw [bytesOf_length]; omega)] at HF
      obtain ⟨v2, w2, hr2, hR2, hb2, -, -⟩ := run_app_row (ty := 46) (A := some ⟨wr.heap.size, 0, none⟩) (m := 2) (c := 2) (Kd.R_alloc HF (.cells (encs (Value.int .u8) [0, 0]).toArray 5)) (C_boxes (W := wr) (T := 5) [0, 0] .u8 (by simp)) Try.underlying46 info_u8 rfl (by decide) (fun _ _ => trivial) (by have := HB.out.size; simp; omega) (by have := esc_length (bytesOf s); rw [bytesOf_length] at this; simp; omega)
      have HR2 := Lib.hid hR2
      have HB2 := Lib.hid ((keepB0 (below_al _ _) HB.out).trans hb2)
      clear hR2 hb2 HF
      go_wp2_with (at_builtin; refine list_app rfl rfl rfl rfl hr2 ?_)
      go_ret2
      exact ⟨_, rfl, HR2.out, HB2.out⟩

/-- A value's bytes. -/
def valBytes (k n : Int) (s : ByteArray) : List Int := if k = 1 then intBytes n else 2 :: (esc (bytesOf s) ++ [0, 0])
theorem value_Bytes_calls (k n : Int) (s : ByteArray) (w : World) (h0 : -9223372036854775808 ≤ n) (h1 : n ≤ 9223372036854775807) (h : valOk k n s = true) :
    Calls Try.prog 72 #[.agg #[.int .i64 k, .int .i64 n, .string s]] w (RetBytes w (valBytes k n s)) := by
  rcases thingV_cases k n s with h2 | h2 | h2
  · rw [h] at h2; cases h2.1
  · obtain ⟨_, rfl, h3, _⟩ := h2
    exact value_Bytes_int n s w h0 h1 h3
  · obtain ⟨_, rfl, rfl, h3, _⟩ := h2
    exact value_Bytes_text s w h3
end Go.Proofs.Ytonbnlfijmapfaa
/- props.Bytes: what it answers at every list. No condition but on sizes and numbers. -/
namespace Go.Proofs.Ytonbnlfijmapfaa
open Go.RowKit Go.Shelf Go.Proofs.YtonbnlfijmapfaaW.PrintWords
set_option linter.unusedVariables false
set_option linter.unusedSimpArgs false

/-- Numbers that are of the machine's. -/
def ranged (ps : List SPrp) : Prop := ∀ p ∈ ps, -9223372036854775808 ≤ p.f1.f1 ∧ p.f1.f1 ≤ 9223372036854775807
def propBytes (p : SPrp) : List Int := ((p.f0.size : Int) % 256) :: (bytesOf p.f0 ++ valBytes p.f1.f0 p.f1.f1 p.f1.f2)
def propsBytes (ps : List SPrp) : List Int := (ps.length : Int) :: ps.flatMap propBytes

theorem propsFrom_ok : ∀ (l : List SPrp) (q : Option ByteArray), propsFrom q l = true → ∀ p ∈ l, nameRight p.f0 = true ∧ p.f1.ok = true
  | [], _, _, p, hp => by simp at hp
  | x :: t, q, h, p, hp => by
    simp only [propsFrom, Bool.and_eq_true] at h
    rcases List.mem_cons.1 hp with rfl | hp
    · exact ⟨h.1.1.1, h.1.1.2⟩
    · exact propsFrom_ok t _ h.2 p hp
theorem propsRight_ok {l : List SPrp} (h : propsRight l = true) : (∀ p ∈ l, nameRight p.f0 = true ∧ p.f1.ok = true) ∧ l.length ≤ 16 := by
  simp only [propsRight, Bool.and_eq_true, decide_eq_true_eq] at h
  exact ⟨propsFrom_ok l none h.1, h.2⟩

theorem valBytes_length {k n : Int} {s : ByteArray} (h : valOk k n s = true) : (valBytes k n s).length ≤ 500 := by
  unfold valBytes
  rcases thingV_cases k n s with h2 | h2 | h2
  · rw [h] at h2; cases h2.1
  · obtain ⟨_, rfl, _⟩ := h2; simp [intBytes_length]
  · obtain ⟨_, rfl, rfl, h3, _⟩ := h2
    have := esc_length (bytesOf s)
    rw [bytesOf_length] at this
    simp; omega
theorem flat_length : ∀ (l : List SPrp), (∀ p ∈ l, p.f1.ok = true) → fits l → (l.flatMap propBytes).length ≤ 2000501 * l.length
  | [], _, _ => by simp
  | p :: t, h, hf => by
    have h1 := flat_length t (fun p hp => h p (List.mem_cons_of_mem _ hp)) (fun p hp => hf p (List.mem_cons_of_mem _ hp))
    have h2 := valBytes_length (k := p.f1.f0) (n := p.f1.f1) (s := p.f1.f2) (h p List.mem_cons_self)
    have h3 := hf p List.mem_cons_self
    simp only [List.flatMap_cons, List.length_append, propBytes, List.length_cons, bytesOf_length]
    omega
theorem flat_take (l : List SPrp) (k : Nat) (h : k < l.length) : (l.take (k + 1)).flatMap propBytes = (l.take k).flatMap propBytes ++ propBytes (l.getD k zPrp) := by
  rw [List.take_succ_eq_append_getElem h]
  simp only [List.flatMap_append, List.getD_eq_getElem?_getD, List.getElem?_eq_getElem h, Option.getD_some, List.flatMap_cons, List.flatMap_nil, List.append_nil]

/-- A row of scalars that was made behind another row's block: it is read as before, behind two appends onto that one. -/
theorem C_behind {α : Type} {d : Kd α} (hE : d.E = []) {T base n c : Nat} {W w2 w3 : World} {A : Option Addr} {xs : List α} (h : d.R T W base (fun _ => True) (.slice A n c) xs) {v4 v2 : Value} (hv : ∀ k, v4.ownBlock = some k → k < base)
    (hg2 : W.drew.grownBy w2 v4.ownBlock) (hg3 : w2.grownBy w3 v2.ownBlock) (hat : v2.ownBlock = v4.ownBlock ∨ ∃ b, v2.ownBlock = some b ∧ W.drew.heap.size ≤ b) : d.C w3 A xs.length xs := by
  have hb := Kd.R_base h
  have hlt := Kd.R_lt h
  have h2 := Kd.R_grown2 (Kd.R_drew h) hE hg2 (fun k hk e => by have := hv k hk; have := hb k e.symm; omega)
  have h3 := Kd.R_grown2 h2 hE hg3 (fun k hk e => by
    rcases hat with h | ⟨b, hb', hle⟩
    · rw [h] at hk; have := hv k hk; have := hb k e.symm; omega
    · rw [hb'] at hk; injection hk with hk; have := hlt k e.symm; simp at hle; omega)
  exact (Kd.R_reads' h3).2.2

set_option maxHeartbeats 4000000 in
set_option maxRecDepth 100000 in
theorem props_Bytes_calls (A : Option Addr) (c : Nat) (l : List SPrp) (w : World) (h : kPrp.C w A l.length l) (hf : fits l) (hg : ranged l) (hr : propsRight l = true) :
    Calls Try.prog 104 #[.slice A l.length c] w (RetBytes w (propsBytes l)) := by
  have hm := Kd.C_max h
  obtain ⟨hok, h16⟩ := propsRight_ok hr
  have HX := Lib.hid h; clear h
  have HF := Lib.hid hf; clear hf
  have HG := Lib.hid hg; clear hg
  have HO := Lib.hid hok; clear hok
  go_enter Try.func104, Try.ntmps104
  go_wp2_with (go_at_call 86; refine (props_Right_calls _ _ _ _ HX.out HF.out).mono ?_; rw [hr]; rintro e w1 ⟨rfl, hb1⟩)
  have HB1 := Lib.hid hb1; clear hb1
  go_loopw [4, 18] (fun v4 v18 wr => ∃ (k : Nat), k ≤ l.length ∧ v18 = .int .i64 k ∧ Hid (Below w.heap.size w wr) ∧ Hid ((Kd.int .u8).R 5 wr w.heap.size (fun _ => True) v4 ((l.length : Int) :: (l.take k).flatMap propBytes))) (fun _ v18 _ => l.length - (intOf v18).toNat)
  case atStart => exact ⟨0, by omega, rfl, Lib.hid (keepB0 (below_al _ _) HB1.out), Lib.hid (R_box1 _ .u8 HB1.out.size)⟩
  case round =>
    obtain ⟨k, hk, rfl, HB, HR⟩ := hrel
    by_cases hlt : k < l.length
    · have hlt2 : (k : Int) < (l.length : Int) := by omega
      have hmem : l.getD k zPrp ∈ l := by simp [List.getD_eq_getElem?_getD, List.getElem?_eq_getElem hlt]
      have hs := HF.out _ hmem
      have hrg := HG.out _ hmem
      have hvo := (HO.out _ hmem).2
      have HT := Lib.hid (flat_take l k hlt)
      have hL := flat_length (l.take k) (fun p hp => (HO.out p (List.mem_of_mem_take hp)).2) (fun p hp => HF.out p (List.mem_of_mem_take hp))
      have hL2 := List.length_take_le k l
      obtain ⟨ad, rfl, g0, g1, g2, g3⟩ := at_Prp (Kd.C_below HX.out HB.out) (k : Int) (by omega) (by omega)
      simp only [Int.toNat_natCast, rd_Prp] at g0 g1 g2 g3
      cases hy : l.getD k zPrp with
      | mk y0 yv =>
      cases yv with
      | mk y1 y2 y3 =>
      rw [hy] at g0 g1 g2 g3 hs hrg hvo HT
      clear hy hmem
      simp only at g0 g1 g2 g3 hs hrg hvo
      have hvl := valBytes_length (k := y1) (n := y2) (s := y3) hvo
      go_wp2_with (go_at_call 72; refine (value_Bytes_calls y1 y2 y3 _ hrg.1 hrg.2 hvo).mono ?_; rintro e w7 ⟨v7, rfl, hR7, hb7⟩; have HR7 := Lib.hid hR7; have HB7 := Lib.hid hb7; clear hR7 hb7)
      have HR4 := Lib.hid (Kd.R_drew (Kd.R_below (Kd.R_alloc HR.out _) HB7.out))
      have HB0 : Below w.heap.size w w7.drew := below_drew (keepB0 HB7.out (keepB0 (below_al _ _) HB.out))
      have hLL : ((l.take k).flatMap propBytes).length ≤ 50000000 := by omega
      clear hL hL2
      generalize (l.take k).flatMap propBytes = X at HR HR4 HT hLL
      have hB4 : w.heap.size ≤ w7.drew.heap.size := by have h1 := HB.out.size; have h2 := HB7.out.size; simp at h2 ⊢; omega
      obtain ⟨A7, c7, rfl, -, -⟩ := Kd.R_reads HR7.out
      have hC7 := fun v2 w2 w3 hg2 hg3 hat => C_behind (v4 := u4) (v2 := v2) (w2 := w2) (w3 := w3) rfl HR7.out (fun k hk => Nat.lt_of_lt_of_le (Kd.R_lt HR.out k hk) (by simp)) hg2 hg3 hat
      go_wp2_with fail
      refine wp_region_held_drew (S := (fun w' => Blk w' wr.heap.size #[.string y0, .int .i64 y1, .int .i64 y2, .string y3] 117 ∧ Below w.heap.size w w')) (by kernel_rfl) ?hS101 (fun hH0 => ?_)
      case hS101 => refine ⟨blk_drew (blk_below HB7.out (blk_new wr _ _)), below_drew (keepB0 HB7.out (keepB0 (below_al _ _) HB.out))⟩
      refine takeY (oi := { dst := some 28, op := Op.move (Operand.tmp 4), type := 46, pos := "props.go:73", after := #[], guard := none }) 0 (some 28) (v := ?v0_102) rfl rfl (by kernel_rfl) (by kernel_rfl) (by kernel_rfl) (fun _ _ _ h => h) (by kernel_rfl) ?hy102 hH0 ?_
      case hy102 => (intro w_ hSw; (try dsimp only at hSw); go_simp; (first | done | with_reducible rfl | rw [if_neg (by omega)]))
      simp only [Act.put, List.setIfInBounds_toArray, List.set_cons_zero, List.set_cons_succ]
      refine takeY (oi := { dst := some 29, op := Op.fieldAddr 117 (Operand.tmp 6) 0, type := 0, pos := "props.go:73", after := #[], guard := none }) 1 (some 29) (v := ?v1_103) rfl rfl (by kernel_rfl) (by kernel_rfl) (by kernel_rfl) (fun _ _ _ h => h) (by kernel_rfl) ?hy103 hH0 ?_
      case hy103 => (intro w_ hSw; (try dsimp only at hSw); go_simp; (first | done | with_reducible rfl | rw [if_neg (by omega)]))
      simp only [Act.put, List.setIfInBounds_toArray, List.set_cons_zero, List.set_cons_succ]
      refine takeY (oi := { dst := some 30, op := Op.load 9 (Operand.tmp 29), type := 9, pos := "props.go:73", after := #[{ on := 1, ground := Ground.data }], guard := none }) 2 (some 30) (v := ?v2_104) rfl rfl (by kernel_rfl) (by kernel_rfl) (by kernel_rfl) (fun _ _ _ h => h) (by kernel_rfl) ?hy104 hH0 ?_
      case hy104 => (intro w_ hSw; (try dsimp only at hSw); (have hc := blk_cell hSw.1 0; go_simp; (first | done | with_reducible rfl)))
      simp only [Act.put, List.setIfInBounds_toArray, List.set_cons_zero, List.set_cons_succ]
      refine takeY (oi := { dst := some 31, op := Op.call { callee := Callee.builtin Builtin.len, args := #[Operand.tmp 30], argTypes := #[9] }, type := 3, pos := "props.go:73", after := #[{ on := 2, ground := Ground.data }], guard := none }) 3 (some 31) (v := ?v3_105) rfl rfl (by kernel_rfl) (by kernel_rfl) (by kernel_rfl) (fun _ _ _ h => h) (by kernel_rfl) ?hy105 hH0 ?_
      case hy105 => (intro w_ hSw; (try dsimp only at hSw); go_simp; (first | done | with_reducible rfl | rw [if_neg (by omega)]))
      simp only [Act.put, List.setIfInBounds_toArray, List.set_cons_zero, List.set_cons_succ]
      refine takeY (oi := { dst := some 32, op := Op.convert 3 5 (Operand.tmp 31), type := 5, pos := "props.go:73", after := #[{ on := 3, ground := Ground.data }], guard := none }) 4 (some 32) (v := ?v4_106) rfl rfl (by kernel_rfl) (by kernel_rfl) (by kernel_rfl) (fun _ _ _ h => h) (by kernel_rfl) ?hy106 hH0 ?_
      case hy106 => (intro w_ hSw; (try dsimp only at hSw); go_simp; (first | done | with_reducible rfl | rw [if_neg (by omega)]))
      simp only [Act.put, List.setIfInBounds_toArray, List.set_cons_zero, List.set_cons_succ]
      refine takeY (oi := { dst := some 35, op := Op.fieldAddr 117 (Operand.tmp 6) 0, type := 0, pos := "props.go:73", after := #[], guard := none }) 7 (some 35) (v := ?v7_107) rfl rfl (by kernel_rfl) (by kernel_rfl) (by kernel_rfl) (fun _ _ _ h => h) (by kernel_rfl) ?hy107 hH0 ?_
      case hy107 => (intro w_ hSw; (try dsimp only at hSw); go_simp; (first | done | with_reducible rfl | rw [if_neg (by omega)]))
      simp only [Act.put, List.setIfInBounds_toArray, List.set_cons_zero, List.set_cons_succ]
      refine takeY (oi := { dst := some 36, op := Op.load 9 (Operand.tmp 35), type := 9, pos := "props.go:73", after := #[{ on := 7, ground := Ground.data }], guard := none }) 8 (some 36) (v := ?v8_108) rfl rfl (by kernel_rfl) (by kernel_rfl) (by kernel_rfl) (fun _ _ _ h => h) (by kernel_rfl) ?hy108 hH0 ?_
      case hy108 => (intro w_ hSw; (try dsimp only at hSw); (have hc := blk_cell hSw.1 0; go_simp; (first | done | with_reducible rfl)))
      simp only [Act.put, List.setIfInBounds_toArray, List.set_cons_zero, List.set_cons_succ]
      refine takeY (oi := { dst := some 38, op := Op.move (Operand.tmp 7), type := 46, pos := "props.go:73", after := #[], guard := none }) 10 (some 38) (v := ?v10_109) rfl rfl (by kernel_rfl) (by kernel_rfl) (by kernel_rfl) (fun _ _ _ h => h) (by kernel_rfl) ?hy109 hH0 ?_
      case hy109 => (intro w_ hSw; (try dsimp only at hSw); go_simp; (first | done | with_reducible rfl | rw [if_neg (by omega)]))
      simp only [Act.put, List.setIfInBounds_toArray, List.set_cons_zero, List.set_cons_succ]
      refine wpAnyH_ready (rs := [5]) (by kernel_rfl) (by simp) ?_
      refine AllReadyH.cons (o := { dst := some 33, op := Op.buildSlice 46 1 #[(0, Operand.tmp 32)], type := 46, pos := "props.go:73", after := #[{ on := 4, ground := Ground.data }], guard := none }) rfl (fun K1 hK1 => ?_) AllReadyH.nil
      go_simp
      refine hK1.out _ _ ?hS110 (fun hH1 => ?_)
      case hS110 => ((try dsimp only); (exact ⟨blk_drew (blk_alloc hH0.1 _), keepB0 (below_al _ _) hH0.2⟩))
      clear hK1 K1
      (try clear hH0)
      (try simp only [Act.put, List.setIfInBounds_toArray, List.set_cons_zero, List.set_cons_succ])
      refine wpAnyH_ready (rs := [6]) (by kernel_rfl) (by simp) ?_
      refine AllReadyH.cons (o := { dst := some 34, op := Op.call { callee := Callee.builtin Builtin.append, args := #[Operand.tmp 28, Operand.tmp 33], argTypes := #[46, 46] }, type := 46, pos := "props.go:73", after := #[{ on := 0, ground := Ground.data }, { on := 5, ground := Ground.data }], guard := none }) rfl (fun K2 hK2 => ?_) AllReadyH.nil
      obtain ⟨v2, w2, hr2, hR2, hb2, hg2, hat2⟩ := run_app_one (ty := 46) HR4.out info_u8 Try.underlying46 (M_int ((y0.size : Int) % 256)) (fun _ _ => trivial) hB4 (by simp only [List.length_cons, List.length_append, bytesOf_length, List.length_nil]; omega) rfl (by decide) (by decide); refine step_app (by kernel_rfl) rfl rfl rfl hr2 ?_
      refine hK2.out _ _ ?hS111 (fun hH2 => ?_)
      case hS111 => ((try dsimp only); (exact ⟨blk_grown (blk_drew (blk_below HB7.out (blk_new wr _ _))) HR4.out hg2 (by decide), HB0.trans hb2⟩))
      clear hK2 K2
      (try clear hH1)
      (try simp only [Act.put, List.setIfInBounds_toArray, List.set_cons_zero, List.set_cons_succ])
      refine wpAnyH_ready (rs := [9]) (by kernel_rfl) (by simp) ?_
      refine AllReadyH.cons (o := { dst := some 37, op := Op.call { callee := Callee.builtin Builtin.append, args := #[Operand.tmp 34, Operand.tmp 36], argTypes := #[46, 9] }, type := 46, pos := "props.go:73", after := #[{ on := 6, ground := Ground.data }, { on := 8, ground := Ground.data }, { on := 6, ground := Ground.chain }], guard := none }) rfl (fun K3 hK3 => ?_) AllReadyH.nil
      obtain ⟨v3, w3, hr3, hR3, hb3, hg3⟩ := run_app_str (ty := 46) hR2 y0 Try.underlying46 Try.underlying9 info_u8 (Nat.le_trans hB4 hb2.size) (by simp only [List.length_cons, List.length_append, bytesOf_length, List.length_nil]; omega); refine step_app (by kernel_rfl) rfl rfl rfl hr3 ?_
      refine hK3.out _ _ ?hS112 (fun hH3 => ?_)
      case hS112 => ((try dsimp only); (exact ⟨blk_grown hH2.1 hR2 hg3 (by decide), hH2.2.trans hb3⟩))
      clear hK3 K3
      (try clear hH2)
      (try simp only [Act.put, List.setIfInBounds_toArray, List.set_cons_zero, List.set_cons_succ])
      refine wpAnyH_ready (rs := [11]) (by kernel_rfl) (by simp) ?_
      refine AllReadyH.cons (o := { dst := some 39, op := Op.call { callee := Callee.builtin Builtin.append, args := #[Operand.tmp 37, Operand.tmp 38], argTypes := #[46, 46] }, type := 46, pos := "props.go:73", after := #[{ on := 9, ground := Ground.data }, { on := 10, ground := Ground.data }, { on := 9, ground := Ground.chain }], guard := none }) rfl (fun K4 hK4 => ?_) AllReadyH.nil
      obtain ⟨v5, w5, hr5, hR5, hb5, hg5, -⟩ := run_app_row (ty := 46) hR3 (hC7 _ _ _ hg2 hg3 hat2) Try.underlying46 info_u8 rfl (by decide) (fun _ _ => trivial) (Nat.le_trans (Nat.le_trans hB4 hb2.size) hb3.size) (by simp only [List.length_cons, List.length_append, bytesOf_length, List.length_nil]; omega); refine step_app (by kernel_rfl) rfl rfl rfl hr5 ?_
      refine hK4.out _ _ ?hS113 (fun hH4 => ?_)
      case hS113 => ((try dsimp only); (exact ⟨blk_grown hH3.1 hR3 hg5 (by decide), hH3.2.trans hb5⟩))
      clear hK4 K4
      (try clear hH3)
      (try simp only [Act.put, List.setIfInBounds_toArray, List.set_cons_zero, List.set_cons_succ])
      refine takeY (oi := { dst := some 4, op := Op.assign (Operand.tmp 39), type := 46, pos := "props.go:73", after := #[{ on := 11, ground := Ground.data }, { on := 11, ground := Ground.chain }, { on := 0, ground := Ground.phase }, { on := 1, ground := Ground.phase }, { on := 2, ground := Ground.phase }, { on := 3, ground := Ground.phase }, { on := 4, ground := Ground.phase }, { on := 5, ground := Ground.phase }, { on := 6, ground := Ground.phase }, { on := 7, ground := Ground.phase }, { on := 8, ground := Ground.phase }, { on := 9, ground := Ground.phase }, { on := 10, ground := Ground.phase }, { on := 11, ground := Ground.phase }], guard := none }) 12 (some 4) (v := ?v12_114) rfl rfl (by kernel_rfl) (by kernel_rfl) (by kernel_rfl) (fun _ _ _ h => h) (by kernel_rfl) ?hy114 hH4 ?_
      case hy114 => (intro w_ hSw; (try dsimp only at hSw); go_simp; (first | done | with_reducible rfl | rw [if_neg (by omega)]))
      simp only [Act.put, List.setIfInBounds_toArray, List.set_cons_zero, List.set_cons_succ]
      refine wpAnyH_done (by kernel_rfl) ?_ _
      have hEnd := hH4
      clear hH4
      have HB5 := Lib.hid hEnd.2
      have HR5 := Lib.hid hR5
      clear hR5 hb5 hg5 hR2 hR3
      go_wp2
      go_roundw
      case rel =>
        refine ⟨k + 1, by omega, by go_num, HB5, Lib.hid ?_⟩
        have e := HR5.out
        rw [HT.out, propBytes]
        refine cast (congrArg (fun z => (Kd.int .u8).R 5 w5 w.heap.size (fun _ => True) v5 z) ?_) e
        simp [List.append_assoc, IntKind.wrap, IntKind.bits, IntKind.signed]
      case measure => simp [intOf]; omega
    · have hlt2 : ¬ (k : Int) < (l.length : Int) := by omega
      go_wp2
      go_ret2
      refine ⟨_, rfl, ?_, HB.out⟩
      have := HR.out
      rwa [List.take_of_length_le (by omega)] at this
end Go.Proofs.Ytonbnlfijmapfaa
/- web.five, web.text, VertexText, LabelIndex, ValueIndex. -/
namespace Go.Proofs.Ytonbnlfijmapfaa
open Go.RowKit Go.Shelf Go.Proofs.YtonbnlfijmapfaaW.PrintWords
set_option linter.unusedVariables false
set_option linter.unusedSimpArgs false

set_option maxHeartbeats 1000000 in
theorem web_LabelIndex_calls (s : ByteArray) (w : World) (hs : s.size ≤ 10000000) :
    Calls Try.prog 33 #[.string s] w fun e w' => e = .returned (.string (strOfNums [76] ++ s)) ∧ w = w' := by
  go_enter Try.func33, Try.ntmps33
  go_wp2
  go_ret
  exact ⟨rfl, rfl⟩

set_option maxHeartbeats 1000000 in
theorem web_ValueIndex_calls (s t : ByteArray) (w : World) (hs : s.size ≤ 10000000) (ht : t.size ≤ 10000000) :
    Calls Try.prog 34 #[.string s, .string t] w fun e w' => e = .returned (.string (strOfNums [80] ++ s ++ strOfNums [32] ++ t)) ∧ w = w' := by
  go_enter Try.func34, Try.ntmps34
  go_wp2
  go_ret
  exact ⟨rfl, rfl⟩

theorem str_box5 (a b c d e : Int) (W : World) : (convert 46 9 (.slice (some ⟨W.heap.size, 0, none⟩) 5 5)).run Try.prog (W.alloc (.cells #[.int .u8 a, .int .u8 b, .int .u8 c, .int .u8 d, .int .u8 e] 5)) = .ok (.string (strOfNums [a, b, c, d, e])) (W.alloc (.cells #[.int .u8 a, .int .u8 b, .int .u8 c, .int .u8 d, .int .u8 e] 5)) :=
  Kd.C_string Try.underlying46 Try.underlying5 Try.underlying9 (C_boxes [a, b, c, d, e] .u8 (by simp))
theorem str_box1 (a : Int) (W : World) : (convert 46 9 (.slice (some ⟨W.heap.size, 0, none⟩) 1 1)).run Try.prog (W.alloc (.cells #[.int .u8 a] 5)) = .ok (.string (strOfNums [a])) (W.alloc (.cells #[.int .u8 a] 5)) :=
  Kd.C_string Try.underlying46 Try.underlying5 Try.underlying9 (C_boxes [a] .u8 (by simp))
theorem str_R {W W' : World} {base : Nat} {ok : Nat → Prop} {v : Value} {xs : List Int} (h : (Kd.int .u8).R 5 W base ok v xs) (hb : Below W.heap.size W W') : (convert 46 9 v).run Try.prog W' = .ok (.string (strOfNums xs)) W' := by
  obtain ⟨A, c, rfl, -, hC⟩ := Kd.R_reads h
  exact Kd.C_string Try.underlying46 Try.underlying5 Try.underlying9 (Kd.C_below hC hb)
theorem propsBytes_size {l : List SPrp} (hr : propsRight l = true) (hf : fits l) : (propsBytes l).length ≤ 50000000 := by
  obtain ⟨h1, h2⟩ := propsRight_ok hr
  have := flat_length l (fun p hp => (h1 p hp).2) hf
  simp only [propsBytes, List.length_cons]
  omega
def fiveBytes (n : Int) : List Int := [n / 4294967296 % 256, n / 16777216 % 256, n / 65536 % 256, n / 256 % 256, n % 256]
set_option maxRecDepth 100000 in
set_option maxHeartbeats 1000000 in
theorem web_five_calls (n : Int) (w : World) :
    Calls Try.prog 71 #[.int .i64 n] w fun e w' => e = .returned (.string (strOfNums (fiveBytes n))) ∧ Below w.heap.size w w' := by
  have q := str_box5
  go_enter Try.func71, Try.ntmps71
  go_wp2
  go_ret
  exact ⟨rfl, below_al _ _⟩

/-- A label and properties, as a text. -/
def bodyText (label : ByteArray) (ps : List SPrp) : ByteArray := strOfNums [(label.size : Int) % 256] ++ label ++ strOfNums (propsBytes ps)
set_option maxRecDepth 100000 in
set_option maxHeartbeats 1000000 in
theorem web_text_calls (s : ByteArray) (A : Option Addr) (c : Nat) (l : List SPrp) (w : World) (hs : s.size ≤ 2000000) (h : kPrp.C w A l.length l) (hf : fits l) (hg : ranged l) (hr : propsRight l = true) :
    Calls Try.prog 69 #[.string s, .slice A l.length c] w fun e w' => e = .returned (.string (bodyText s l)) ∧ Below w.heap.size w w' := by
  have q := str_box1
  have hps := propsBytes_size hr hf
  have hps2 := strOfNums_size (propsBytes l)
  have hps3 := strOfNums_size [(s.size : Int) % 256]
  have HX := Lib.hid h; clear h
  have HF := Lib.hid hf; clear hf
  have HG := Lib.hid hg; clear hg
  go_enter Try.func69, Try.ntmps69
  go_wp2_with (go_at_call 104; refine (props_Bytes_calls _ _ _ _ HX.out HF.out HG.out hr).mono ?_; rintro e w1 ⟨v1, rfl, hR1, hb1⟩; have HR1 := Lib.hid hR1; have HB1 := Lib.hid hb1; have q2 := fun o => str_R hR1 (below_al w1 o); clear hR1 hb1)
  go_ret
  exact ⟨ret_str rfl, keepB0 (below_al _ _) HB1.out⟩

theorem checkN_ok {label : ByteArray} {ps : List SPrp} {ids : List Int} (h : checkN label ps ids = 0) : ids.all idOk = true ∧ nameRight label = true ∧ propsRight ps = true := by
  unfold checkN at h
  split at h
  · split at h
    · split at h
      · exact ⟨by assumption, by assumption, by assumption⟩
      · cases h
    · cases h
  · cases h

/-- A vertex' text and the error. -/
def vertexText (id : Int) (label : ByteArray) (ps : List SPrp) : ByteArray := if checkN label ps [id] = 0 then bodyText label ps else ⟨#[]⟩
set_option maxRecDepth 100000 in
set_option maxHeartbeats 1000000 in
theorem web_VertexText_calls (id : Int) (s : ByteArray) (A : Option Addr) (c : Nat) (l : List SPrp) (w : World) (hs : s.size ≤ 2000000) (h : kPrp.C w A l.length l) (hf : fits l) (hg : ranged l) :
    Calls Try.prog 17 #[.agg #[.int .i64 id, .string s, .slice A l.length c]] w fun e w' => e = .returned (.tuple #[.string (vertexText id s l), .int .i64 (checkN s l [id])]) ∧ Below w.heap.size w w' := by
  have HX := Lib.hid h; clear h
  have HF := Lib.hid hf; clear hf
  have HG := Lib.hid hg; clear hg
  by_cases hc : checkN s l [id] = 0
  · have hr := (checkN_ok hc).2.2
    go_enter Try.func17, Try.ntmps17
    go_wp2_with (first
      | (go_at_call 46; refine (graph_Check_calls _ _ _ _ 1 l [id] _ hs ?hP HF.out ?hI).mono ?_; (case hP => exact Kd.C_below HX.out (keepB0 (below_al _ _) (below_al w _))); (case hI => exact C_boxg (Kd.int .i64) (by decide) _ _ (by simp) id #[.int .i64 id] _ rfl); rw [hc]; rintro e w1 ⟨rfl, hb1⟩; have c1 : w1.cell? ⟨w.heap.size, 1, none⟩ = some (.string s) := blk_cell (blk_below hb1 (blk_alloc (blk_new w _ 24) _)) 1; have c2 : w1.cell? ⟨w.heap.size, 2, none⟩ = some (.slice A l.length c) := blk_cell (blk_below hb1 (blk_alloc (blk_new w _ 24) _)) 2; have HB1 := Lib.hid (keepB0 hb1 (keepB0 (below_al _ _) (below_al w _))); clear hb1)
      | (go_at_call 69; refine (web_text_calls _ _ _ _ _ hs (Kd.C_below HX.out HB1.out) HF.out HG.out hr).mono ?_; rintro e w2 ⟨rfl, hb2⟩))
    go_ret2
    exact ⟨by rw [vertexText, if_pos hc, hc]; rfl, keepB0 hb2 HB1.out⟩
  · go_enter Try.func17, Try.ntmps17
    go_wp2_with (
      (go_at_call 46; refine (graph_Check_calls _ _ _ _ 1 l [id] _ hs ?hP HF.out ?hI).mono ?_; (case hP => exact Kd.C_below HX.out (keepB0 (below_al _ _) (below_al w _))); (case hI => exact C_boxg (Kd.int .i64) (by decide) _ _ (by simp) id #[.int .i64 id] _ rfl); rintro e w1 ⟨rfl, hb1⟩; have HB1 := Lib.hid (keepB0 hb1 (keepB0 (below_al _ _) (below_al w _))); clear hb1))
    go_ret2
    exact ⟨by rw [vertexText, if_neg hc]; rfl, HB1.out⟩
end Go.Proofs.Ytonbnlfijmapfaa
