/- cobwebref16.SameV. -/
import Derived.Test.YtonbnlfijmapfaaL14
namespace Go.Proofs.Ytonbnlfijmapfaa
open Go.RowKit Go.Shelf Go.Proofs.YtonbnlfijmapfaaW.PrintWords
set_option linter.unusedVariables false
set_option linter.unusedSimpArgs false

set_option maxRecDepth 100000 in
set_option maxHeartbeats 4000000 in
theorem ref16_SameV_calls (A B : Option Addr) (c d : Nat) (a b : List SVert) (w : World) (ha : kVert.C w A a.length a) (hb : kVert.C w B b.length b) :
    Calls Try.prog 18 #[.slice A a.length c, .slice B b.length d] w fun e w' => e = .returned (.bool (decide (a = b))) ∧ Quiet w w' := by
  have hm := Kd.C_max ha
  have HX := Lib.hid ha; clear ha
  have HY := Lib.hid hb; clear hb
  go_enter Try.func18, Try.ntmps18
  by_cases hl : a.length = b.length
  · have hl2 : ((a.length : Int) = (b.length : Int)) := by omega
    go_wp2
    go_loopw [5] (fun v5 wr => ∃ (k : Nat), k ≤ a.length ∧ v5 = .int .i64 k ∧ Hid (Quiet w wr) ∧ Hid (a.take k = b.take k)) (fun v5 _ => a.length - (intOf v5).toNat)
    case atStart => exact ⟨0, by omega, rfl, Lib.hid (quiet_refl _), Lib.hid rfl⟩
    case round =>
      obtain ⟨k, hk, rfl, HB, HT⟩ := hrel
      by_cases hlt : k < a.length
      · have hlt2 : (k : Int) < (a.length : Int) := by omega
        have hlt3 : (k : Int) < (b.length : Int) := by omega
        obtain ⟨ad, A2, c2, rfl, g0, g1, g2, _, hA⟩ := at_Vert (Kd.C_below HX.out (quiet_below HB.out _)) (k : Int) (by omega) (by omega)
        obtain ⟨bd, B2, d2, rfl, f0, f1, f2, _, hB⟩ := at_Vert (Kd.C_below HY.out (quiet_below HB.out _)) (k : Int) (by omega) (by omega)
        simp only [Int.toNat_natCast, rd_Vert] at g0 g1 g2 f0 f1 f2 hA hB
        have HE := Lib.hid (fun e => take_step a b k zVert hlt (by omega) HT.out e)
        have HN := Lib.hid (fun e => take_unlike (a := a) (b := b) (k := k) (z := zVert) e)
        cases hy : a.getD k zVert with
        | mk y0 y1 y2 =>
        cases hx : b.getD k zVert with
        | mk x0 x1 x2 =>
        rw [hy] at g0 g1 g2 hA HE HN
        rw [hx] at f0 f1 f2 hB HE HN
        clear hx hy
        simp only at g0 g1 g2 f0 f1 f2 hA hB
        by_cases h0 : y0 = x0
        · subst h0
          by_cases h1 : y1 = x1
          · subst h1
            have q := fun w2 hb => ref03_Same_calls A2 B2 c2 d2 y2 x2 w2 (Kd.C_below hA hb) (Kd.C_below hB hb)
            have HQ := Lib.hid q; clear q
            cases h2 : decide (y2 = x2) with
            | true =>
              rw [h2] at HQ
              go_wp2_with fail
              go_big_quiet ((go_at_call 70; exact Calls.quiet_of (HQ.out _ (pw_below_drewN (Below.refl _ _) _))))
              go_wp2
              go_roundw
              case rel => exact ⟨k + 1, by omega, by go_num, Lib.hid (quiet_step HB.out _), Lib.hid (HE.out (by rw [of_decide_eq_true h2]))⟩
              case measure => simp [intOf]; omega
            | false =>
              rw [h2] at HQ
              go_wp2_with fail
              go_big_quiet ((go_at_call 70; exact Calls.quiet_of (HQ.out _ (pw_below_drewN (Below.refl _ _) _))))
              go_wp2
              go_ret
              exact ⟨ret_bool (Eq.symm (decide_eq_false (HN.out (by simp [of_decide_eq_false h2])))), quiet_step HB.out _⟩
          · have h1' : (y1.toList == x1.toList) = false := by rw [toList_eq]; exact decide_eq_false h1
            go_wp2_with fail
            go_big_quiet (fail)
            go_wp2
            go_ret
            exact ⟨ret_bool (Eq.symm (decide_eq_false (HN.out (by simp [h1])))), quiet_step HB.out _⟩
        · have h0' : (y0 != x0) = true := by simp [h0]
          go_wp2_with fail
          go_big_quiet (fail)
          go_wp2
          go_ret
          exact ⟨ret_bool (Eq.symm (decide_eq_false (HN.out (by simp [h0])))), quiet_step HB.out _⟩
      · have hlt2 : ¬ (k : Int) < (b.length : Int) := by omega
        go_wp2
        go_ret
        refine ⟨ret_bool (Eq.symm (decide_eq_true ?_)), HB.out⟩
        have := HT.out
        rwa [List.take_of_length_le (by omega), List.take_of_length_le (by omega)] at this
  · have hl2 : ¬ ((a.length : Int) = (b.length : Int)) := by omega
    go_wp2
    go_ret
    exact ⟨ret_bool (Eq.symm (decide_eq_false (fun h => hl (by rw [h])))), quiet_refl _⟩
end Go.Proofs.Ytonbnlfijmapfaa
