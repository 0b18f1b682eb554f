/- cobweblaw21.props, awake; web.VertexKey. -/
import Derived.Test.YtonbnlfijmapfaaL15
namespace Go.Proofs.Ytonbnlfijmapfaa
open Go.RowKit Go.Shelf Go.Proofs.YtonbnlfijmapfaaW.PrintWords
set_option linter.unusedVariables false
set_option linter.unusedSimpArgs false

/-- Not too many, not too long. -/
def small (p : SPrp) : Bool := decide (p.f0.size ≤ 100) && decide (p.f1.f2.size ≤ 300)
def lawProps (ps : List SPrp) : Bool := decide (ps.length ≤ 30) && ps.all small
theorem small_fits {ps : List SPrp} (h : lawProps ps = true) : fits ps := by
  simp only [lawProps, Bool.and_eq_true, List.all_eq_true, small, decide_eq_true_eq] at h
  intro p hp; have := (h.2 p hp).1; omega

set_option maxHeartbeats 2000000 in
theorem law21_props_calls (A : Option Addr) (c : Nat) (l : List SPrp) (w : World) (h : kPrp.C w A l.length l) :
    Calls Try.prog 16 #[.slice A l.length c] w fun e w' => e = .returned (.bool (lawProps l)) ∧ w = w' := by
  have hm := Kd.C_max h
  have HX := Lib.hid h; clear h
  by_cases h30 : l.length ≤ 30
  · have hz : ¬ (30 : Int) < (l.length : Int) := by omega
    go_enter Try.func16, Try.ntmps16
    go_wp2
    go_loopw [3] (fun v3 wr => ∃ k : Nat, k ≤ l.length ∧ v3 = .int .i64 k ∧ wr = w ∧ Hid ((l.drop k).all small = l.all small)) (fun v3 _ => l.length - (intOf v3).toNat)
    case atStart => exact ⟨0, by omega, rfl, rfl, Lib.hid rfl⟩
    case round =>
      obtain ⟨k, hk, rfl, rfl, HT⟩ := hrel
      by_cases hlt : k < l.length
      · have hlt2 : (k : Int) < (l.length : Int) := by omega
        have HS := Lib.hid (drop_cons l k zPrp hlt)
        obtain ⟨ad, rfl, g0, g1, g2, g3⟩ := at_Prp HX.out (k : Int) (by omega) (by omega)
        simp only [Int.toNat_natCast, rd_Prp] at g0 g1 g2 g3
        cases hy : l.getD k zPrp with
        | mk y0 yv =>
        cases yv with
        | mk y1 y2 y3 =>
        rw [hy] at g0 g1 g2 g3 HS
        clear hy
        simp only at g0 g1 g2 g3
        by_cases h0 : y0.size ≤ 100
        · have e0 : ¬ (100 : Int) < (y0.size : Int) := by omega
          by_cases h1 : y3.size ≤ 300
          · have e1 : ¬ (300 : Int) < (y3.size : Int) := by omega
            go_wp2
            go_roundw
            case rel => exact ⟨k + 1, by omega, by go_num, by trivial, Lib.hid (by rw [← HT.out, HS.out]; simp [small, h0, h1])⟩
            case measure => simp [intOf]; omega
          · have e1 : (300 : Int) < (y3.size : Int) := by omega
            go_wp2
            go_ret
            exact ⟨ret_bool (by rw [lawProps, ← HT.out, HS.out]; simp [small, h1]), rfl⟩
        · have e0 : (100 : Int) < (y0.size : Int) := by omega
          go_wp2
          go_ret
          exact ⟨ret_bool (by rw [lawProps, ← HT.out, HS.out]; simp [small, h0]), rfl⟩
      · have hlt2 : ¬ (k : Int) < (l.length : Int) := by omega
        go_wp2
        go_ret
        refine ⟨ret_bool ?_, rfl⟩
        have := HT.out
        rw [List.drop_eq_nil_of_le (by omega)] at this
        rw [lawProps, ← this, decide_eq_true h30]; rfl
  · have hz : (30 : Int) < (l.length : Int) := by omega
    go_enter Try.func16, Try.ntmps16
    go_wp2
    go_ret
    exact ⟨ret_bool (by rw [lawProps, decide_eq_false h30]; rfl), rfl⟩

set_option maxHeartbeats 1000000 in
theorem web_VertexKey_calls (a : Int) (w : World) :
    Calls Try.prog 27 #[.int .i64 a] w fun e w' => e = .returned (.agg #[.int .i64 1, .int .i64 a, .int .i64 0, .string ⟨#[]⟩]) ∧ Below w.heap.size w w' := by
  go_enter Try.func27, Try.ntmps27
  go_wp2
  refine bodyPost_ret (results_cell_row rfl _ _ w.heap.size 55 _ (0, 0) _ rfl (heap_alloc_new _ _) Try.underlying55 rfl (by kernel_rfl)) rfl ?_
  exact ⟨rfl, below_al _ _⟩
end Go.Proofs.Ytonbnlfijmapfaa
