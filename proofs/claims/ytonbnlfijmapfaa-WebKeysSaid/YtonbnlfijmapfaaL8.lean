/- graph.Check: what may be. No condition but on sizes. -/
import Derived.Test.YtonbnlfijmapfaaL7
namespace Go.Proofs.Ytonbnlfijmapfaa
open Go.RowKit Go.Shelf Go.Proofs.YtonbnlfijmapfaaW.PrintWords
set_option linter.unusedVariables false
set_option linter.unusedSimpArgs false

def idOk (n : Int) : Bool := decide (0 ≤ n) && decide (n < 1099511627776)

set_option maxHeartbeats 1000000 in
theorem graph_Check1_calls (n : Int) (w : World) :
    Calls Try.prog 84 #[.int .i64 n] w fun e w' => e = .returned (.bool (!idOk n)) ∧ w = w' := by
  go_enter Try.func84, Try.ntmps84
  go_wp2
  all_goals (go_ret; refine ⟨ret_bool ?_, rfl⟩; go_tidy; rw [Bool.eq_iff_iff]; first | (simp [idOk]; done) | (simp [idOk]; omega))

theorem enters_Check1 : ∀ args w, (callFunc 84 args).run Try.prog w = .ok (.enter 84 args) w := enters_of Try.func84 (by kernel_rfl) rfl

/-- What graph.Check answers. -/
def checkN (label : ByteArray) (ps : List SPrp) (ids : List Int) : Int := if ids.all idOk = true then (if nameRight label = true then (if propsRight ps = true then 0 else 10) else 30) else 2

set_option maxHeartbeats 1000000 in
theorem graph_Check_calls (label : ByteArray) (A B : Option Addr) (c d : Nat) (ps : List SPrp) (ids : List Int) (w : World) (hl : label.size ≤ 100000) (hp : kPrp.C w A ps.length ps) (hf : fits ps) (hi : (Kd.int .i64).C w B ids.length ids) :
    Calls Try.prog 46 #[.string label, .slice A ps.length c, .slice B ids.length d] w fun e w' => e = .returned (.int .i64 (checkN label ps ids)) ∧ Below w.heap.size w w' := by
  have HPr : Hid (PredOn Try.prog 84 #[] (.int .i64) (fun n => !idOk n) w ids) := Lib.hid fun W x hx hB => (graph_Check1_calls x W).mono fun e w' ⟨he, hw⟩ => ⟨he, by subst hw; exact Below.refl _ _⟩
  have HP := Lib.hid hp; clear hp
  have HI := Lib.hid hi; clear hi
  have HF := Lib.hid hf; clear hf
  have ha : (ids.any fun n => !idOk n) = !ids.all idOk := by rw [List.any_eq_not_all_not]; simp
  cases h1 : ids.all idOk with
  | false =>
    rw [h1] at ha
    go_enter Try.func46, Try.ntmps46
    go_wp2_with (go_at_call 83; refine (ContainsFunc_int_calls 84 #[] enters_Check1 _ B d ids w HI.out HPr.out).mono ?_; rintro e w1 ⟨rfl, hb1⟩)
    go_ret
    exact ⟨ret_int (by unfold checkN; rw [h1]; rfl), hb1⟩
  | true =>
    rw [h1] at ha
    cases h2 : nameRight label with
    | false =>
      go_enter Try.func46, Try.ntmps46
      go_wp2_with (first
        | (go_at_call 83; refine (ContainsFunc_int_calls 84 #[] enters_Check1 _ B d ids w HI.out HPr.out).mono ?_; rintro e w1 ⟨rfl, hb1⟩)
        | (go_at_call 85; refine (letter_Right_one _ 1 label _ ?hC ?hs false h2).mono ?_; (case hC => exact C_boxg Kd.string (by decide) _ _ (by simp) label #[.string label] _ rfl); (case hs => omega); rintro e w2 ⟨rfl, hb2⟩))
      go_ret
      exact ⟨ret_int (by unfold checkN; rw [h1, h2]; rfl), keepB0 hb2 (keepB0 (below_al _ _) hb1)⟩
    | true =>
      go_enter Try.func46, Try.ntmps46
      go_wp2_with (first
        | (go_at_call 83; refine (ContainsFunc_int_calls 84 #[] enters_Check1 _ B d ids w HI.out HPr.out).mono ?_; rintro e w1 ⟨rfl, hb1⟩)
        | (go_at_call 85; refine (letter_Right_one _ 1 label _ ?hC ?hs true h2).mono ?_; (case hC => exact C_boxg Kd.string (by decide) _ _ (by simp) label #[.string label] _ rfl); (case hs => omega); rintro e w2 ⟨rfl, hb2⟩)
        | (go_at_call 86; have hq := keepB0 hb2 (keepB0 (below_al _ (.cells #[.string label] 9)) hb1); refine (props_Right_calls _ _ _ _ (Kd.C_below HP.out hq) HF.out).mono ?_; rintro e w3 ⟨rfl, hb3⟩))
      all_goals
        go_ret
        refine ⟨ret_int ?_, keepB0 hb3 hq⟩
        go_tidy
        unfold checkN
        rw [h1, h2]
        simp_all
end Go.Proofs.Ytonbnlfijmapfaa
