/- Lists held against each other: cobwebref03.Same, cobwebref16.SameV. -/
import Derived.Test.YtonbnlfijmapfaaL13
import Derived.Test.YtonbnlfijmapfaaE0
namespace Go.Proofs.Ytonbnlfijmapfaa
open Go.RowKit Go.Shelf Go.Proofs.YtonbnlfijmapfaaW.PrintWords
set_option linter.unusedVariables false
set_option linter.unusedSimpArgs false

theorem take_step {α : Type} (a b : List α) (k : Nat) (z : α) (h1 : k < a.length) (h2 : k < b.length) (h : a.take k = b.take k) (e : a.getD k z = b.getD k z) : a.take (k + 1) = b.take (k + 1) := by
  rw [List.take_succ_eq_append_getElem h1, List.take_succ_eq_append_getElem h2, h]
  simp only [List.getD_eq_getElem?_getD, List.getElem?_eq_getElem h1, List.getElem?_eq_getElem h2, Option.getD_some] at e
  rw [e]
theorem take_unlike {α : Type} {a b : List α} {k : Nat} {z : α} (e : ¬ a.getD k z = b.getD k z) : ¬ a = b := fun h => e (by rw [h])

set_option maxRecDepth 100000 in
set_option maxHeartbeats 2000000 in
theorem ref03_Same_calls (A B : Option Addr) (c d : Nat) (a b : List SPrp) (w : World) (ha : kPrp.C w A a.length a) (hb : kPrp.C w B b.length b) :
    Calls Try.prog 70 #[.slice A a.length c, .slice B b.length d] w fun e w' => e = .returned (.bool (decide (a = b))) ∧ Quiet w w' := by
  have hm := Kd.C_max ha
  have HX := Lib.hid ha; clear ha
  have HY := Lib.hid hb; clear hb
  go_enter Try.func70, Try.ntmps70
  by_cases hl : a.length = b.length
  · have hl2 : ((a.length : Int) = (b.length : Int)) := by omega
    go_wp2
    go_loopw [5] (fun v5 wr => ∃ (k : Nat), k ≤ a.length ∧ v5 = .int .i64 k ∧ Hid (Quiet w wr) ∧ Hid (a.take k = b.take k)) (fun v5 _ => a.length - (intOf v5).toNat)
    case atStart => exact ⟨0, by omega, rfl, Lib.hid (quiet_refl _), Lib.hid rfl⟩
    case round =>
      obtain ⟨k, hk, rfl, HB, HT⟩ := hrel
      by_cases hlt : k < a.length
      · have hlt2 : (k : Int) < (a.length : Int) := by omega
        have hlt3 : (k : Int) < (b.length : Int) := by omega
        obtain ⟨ad, rfl, g0, g1, g2, g3⟩ := at_Prp (Kd.C_below HX.out (quiet_below HB.out _)) (k : Int) (by omega) (by omega)
        obtain ⟨bd, rfl, f0, f1, f2, f3⟩ := at_Prp (Kd.C_below HY.out (quiet_below HB.out _)) (k : Int) (by omega) (by omega)
        simp only [Int.toNat_natCast, rd_Prp] at g0 g1 g2 g3 f0 f1 f2 f3
        by_cases he : a.getD k zPrp = b.getD k zPrp
        · have HS := Lib.hid (take_step a b k zPrp hlt (by omega) HT.out he)
          rw [← he] at f0 f1 f2 f3
          cases hy : a.getD k zPrp with
          | mk y0 yv =>
          cases yv with
          | mk y1 y2 y3 =>
          rw [hy] at g0 g1 g2 g3 f0 f1 f2 f3
          clear hy he
          simp only at g0 g1 g2 g3 f0 f1 f2 f3
          have q := eq_Prp (decide_eq_true (Eq.refl (⟨y0, ⟨y1, y2, y3⟩⟩ : SPrp)))
          go_wp2_with fail
          go_quiet (fail)
          go_wp2
          go_roundw
          case rel => exact ⟨k + 1, by omega, by go_num, Lib.hid (quiet_step HB.out _), HS⟩
          case measure => simp [intOf]; omega
        · have HN := Lib.hid (show decide (a = b) = false from decide_eq_false (take_unlike he))
          cases hy : a.getD k zPrp with
          | mk y0 yv =>
          cases yv with
          | mk y1 y2 y3 =>
          cases hx : b.getD k zPrp with
          | mk x0 xv =>
          cases xv with
          | mk x1 x2 x3 =>
          rw [hx, hy] at he
          rw [hy] at g0 g1 g2 g3 
          rw [hx] at f0 f1 f2 f3
          clear hx hy
          simp only at g0 g1 g2 g3 f0 f1 f2 f3
          have q := eq_Prp (decide_eq_false he)
          go_wp2_with fail
          go_quiet (fail)
          go_wp2
          go_ret
          exact ⟨ret_bool HN.out.symm, quiet_step HB.out _⟩
      · have hlt2 : ¬ (k : Int) < (b.length : Int) := by omega
        go_wp2
        go_ret
        refine ⟨ret_bool (Eq.symm (decide_eq_true ?_)), HB.out⟩
        have := HT.out
        rwa [List.take_of_length_le (by omega), List.take_of_length_le (by omega)] at this
  · have hl2 : ¬ ((a.length : Int) = (b.length : Int)) := by omega
    go_wp2
    go_ret
    exact ⟨ret_bool (Eq.symm (decide_eq_false (fun h => hl (by rw [h])))), quiet_refl _⟩

end Go.Proofs.Ytonbnlfijmapfaa
