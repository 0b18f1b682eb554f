/- cobweblaw21.WebApart, where all is small. -/
import Derived.Test.YtonbnlfijmapfaaL18
namespace Go.Proofs.Ytonbnlfijmapfaa
open Go.RowKit Go.Shelf Go.Proofs.YtonbnlfijmapfaaW.PrintWords
set_option linter.unusedVariables false
set_option linter.unusedSimpArgs false

set_option maxRecDepth 100000 in
set_option maxHeartbeats 8000000 in
theorem law21_WebApart_bad (i1 i2 x y : Int) (s1 s2 : ByteArray) (A1 A2 : Option Addr) (c1 c2 : Nat) (l1 l2 : List SPrp) (w : World) (h1 : PropsIn w A1 c1 l1) (h2 : PropsIn w A2 c2 l2) (hn1 : lawProps l1 = true) (hn2 : lawProps l2 = true) (hs1 : s1.size ≤ 200) (hs2 : s2.size ≤ 200)
    (hc : ¬ checkN s1 l1 [i1] = 0 ∨ checkN s1 l1 [i1] = 0 ∧ ¬ checkN s2 l2 [i2] = 0) :
    Calls Try.prog 3 #[.agg #[.int .i64 i1, .string s1, .slice A1 l1.length c1], .agg #[.int .i64 i2, .string s2, .slice A2 l2.length c2], .agg #[.int .i64 x, .int .i64 y]] w fun e w' => e = .returned (.bool true) ∧ Below w.heap.size w w' := by
  have H1 := Lib.hid h1; clear h1
  have H2 := Lib.hid h2; clear h2
  have F1 := Lib.hid (small_fits hn1)
  have F2 := Lib.hid (small_fits hn2)
  have p1 : True := trivial
  have p2 : True := trivial
  have HN := Lib.hid (Bx.new w (.int .i64 i1) (.string s1) (.slice A1 l1.length c1) (.int .i64 i2) (.string s2) (.slice A2 l2.length c2) (.int .i64 x) (.int .i64 y) 24 24 25)
  have hn4 : ¬ (200 : Int) < (s1.size : Int) := by omega
  have hn5 : ¬ (200 : Int) < (s2.size : Int) := by omega
  rcases hc with hc | ⟨hc, hc2⟩
  · go_enter Try.func3, Try.ntmps3
    go_wp2_with (first
      | (go_at_call 15; refine (law21_awake_calls _).mono ?_; rintro e wa ⟨rfl, hba⟩; have HB := Lib.hid (HN.out.keep hba); clear hba HN; obtain ⟨x0, x1, x2, y0, y1, y2, z0, z1, -⟩ := HB.out)
      | (go_at_call 16; clear p1; refine (law21_props_calls A1 c1 l1 _ (Kd.C_below H1.out.row HB.out.low)).mono ?_; rw [hn1]; rintro e wp ⟨rfl, rfl⟩)
      | (go_at_call 16; refine (law21_props_calls A2 c2 l2 _ (Kd.C_below H2.out.row HB.out.low)).mono ?_; rw [hn2]; rintro e wp ⟨rfl, rfl⟩)
      | (go_at_call 17; clear p2; refine (web_VertexText_calls i1 s1 A1 c1 l1 _ (by omega) (Kd.C_below H1.out.row HB.out.low) F1.out H1.out.rng).mono ?_; rintro e wb ⟨rfl, hbb⟩; clear x0 x1 x2 y0 y1 y2 z0 z1; have HC := Lib.hid (HB.out.keep hbb); clear hbb HB; obtain ⟨x0, x1, x2, y0, y1, y2, z0, z1, -⟩ := HC.out)
      | (go_at_call 17; refine (web_VertexText_calls i2 s2 A2 c2 l2 _ (by omega) (Kd.C_below H2.out.row HC.out.low) F2.out H2.out.rng).mono ?_; rintro e wc ⟨rfl, hbc⟩; clear x0 x1 x2 y0 y1 y2 z0 z1; have HD := Lib.hid (HC.out.keep hbc); clear hbc HC))
    go_ret
    exact ⟨rfl, HD.out.low⟩
  · go_enter Try.func3, Try.ntmps3
    go_wp2_with (first
      | (go_at_call 15; refine (law21_awake_calls _).mono ?_; rintro e wa ⟨rfl, hba⟩; have HB := Lib.hid (HN.out.keep hba); clear hba HN; obtain ⟨x0, x1, x2, y0, y1, y2, z0, z1, -⟩ := HB.out)
      | (go_at_call 16; clear p1; refine (law21_props_calls A1 c1 l1 _ (Kd.C_below H1.out.row HB.out.low)).mono ?_; rw [hn1]; rintro e wp ⟨rfl, rfl⟩)
      | (go_at_call 16; refine (law21_props_calls A2 c2 l2 _ (Kd.C_below H2.out.row HB.out.low)).mono ?_; rw [hn2]; rintro e wp ⟨rfl, rfl⟩)
      | (go_at_call 17; clear p2; refine (web_VertexText_calls i1 s1 A1 c1 l1 _ (by omega) (Kd.C_below H1.out.row HB.out.low) F1.out H1.out.rng).mono ?_; rw [hc]; rintro e wb ⟨rfl, hbb⟩; clear x0 x1 x2 y0 y1 y2 z0 z1; have HC := Lib.hid (HB.out.keep hbb); clear hbb HB; obtain ⟨x0, x1, x2, y0, y1, y2, z0, z1, -⟩ := HC.out)
      | (go_at_call 17; refine (web_VertexText_calls i2 s2 A2 c2 l2 _ (by omega) (Kd.C_below H2.out.row HC.out.low) F2.out H2.out.rng).mono ?_; rintro e wc ⟨rfl, hbc⟩; clear x0 x1 x2 y0 y1 y2 z0 z1; have HD := Lib.hid (HC.out.keep hbc); clear hbc HC))
    go_ret
    exact ⟨rfl, HD.out.low⟩
end Go.Proofs.Ytonbnlfijmapfaa
