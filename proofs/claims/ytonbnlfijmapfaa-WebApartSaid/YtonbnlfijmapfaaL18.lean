/- cobweblaw21.WebApart. -/
import Derived.Test.YtonbnlfijmapfaaL17
import Derived.Test.YtonbnlfijmapfaaP1
namespace Go.Proofs.Ytonbnlfijmapfaa
open Go.RowKit Go.Shelf Go.Proofs.YtonbnlfijmapfaaW.PrintWords
set_option linter.unusedVariables false
set_option linter.unusedSimpArgs false

/-- What is told of properties that came in. -/
structure PropsIn (w : World) (A : Option Addr) (c : Nat) (l : List SPrp) : Prop where
  row : kPrp.C w A l.length l
  rng : ranged l
  cap : l.length ≤ c
/-- The variables of WebApart that lie in memory. -/
def Bx (w0 : World) (v0 v1 v2 u0 u1 u2 t0 t1 : Value) (W : World) : Prop :=
  W.cell? ⟨w0.heap.size, 0, none⟩ = some v0 ∧ W.cell? ⟨w0.heap.size, 1, none⟩ = some v1 ∧ W.cell? ⟨w0.heap.size, 2, none⟩ = some v2 ∧ W.cell? ⟨w0.heap.size + 1, 0, none⟩ = some u0 ∧ W.cell? ⟨w0.heap.size + 1, 1, none⟩ = some u1 ∧ W.cell? ⟨w0.heap.size + 1, 2, none⟩ = some u2 ∧ W.cell? ⟨w0.heap.size + 2, 0, none⟩ = some t0 ∧ W.cell? ⟨w0.heap.size + 2, 1, none⟩ = some t1 ∧ Below w0.heap.size w0 W
theorem Bx.keep {w0 W W2 : World} {v0 v1 v2 u0 u1 u2 t0 t1 : Value} (hb : Below W.heap.size W W2) (h : Bx w0 v0 v1 v2 u0 u1 u2 t0 t1 W) : Bx w0 v0 v1 v2 u0 u1 u2 t0 t1 W2 := keepB8 hb h
theorem Bx.low {w0 W : World} {v0 v1 v2 u0 u1 u2 t0 t1 : Value} (h : Bx w0 v0 v1 v2 u0 u1 u2 t0 t1 W) : Below w0.heap.size w0 W := h.2.2.2.2.2.2.2.2
theorem Bx.new (w0 : World) (v0 v1 v2 u0 u1 u2 t0 t1 : Value) (a b c : Nat) : Bx w0 v0 v1 v2 u0 u1 u2 t0 t1 (((w0.alloc (.cells #[v0, v1, v2] a)).alloc (.cells #[u0, u1, u2] b)).alloc (.cells #[t0, t1] c)) := by
  have k1 := blk_alloc (blk_alloc (blk_new w0 #[v0, v1, v2] a) (.cells #[u0, u1, u2] b)) (.cells #[t0, t1] c)
  have k2 := blk_alloc (blk_new (w0.alloc (.cells #[v0, v1, v2] a)) #[u0, u1, u2] b) (.cells #[t0, t1] c)
  have k3 := blk_new ((w0.alloc (.cells #[v0, v1, v2] a)).alloc (.cells #[u0, u1, u2] b)) #[t0, t1] c
  have e2 : (w0.alloc (.cells #[v0, v1, v2] a)).heap.size = w0.heap.size + 1 := by simp
  have e3 : ((w0.alloc (.cells #[v0, v1, v2] a)).alloc (.cells #[u0, u1, u2] b)).heap.size = w0.heap.size + 2 := by simp
  rw [e2] at k2
  rw [e3] at k3
  exact ⟨blk_cell k1 0, blk_cell k1 1, blk_cell k1 2, blk_cell k2 0, blk_cell k2 1, blk_cell k2 2, blk_cell k3 0, blk_cell k3 1, keepB0 (below_al _ _) (keepB0 (below_al _ _) (below_al _ _))⟩

set_option maxRecDepth 100000 in
set_option maxHeartbeats 8000000 in
theorem law21_WebApart_no (i1 i2 x y : Int) (s1 s2 : ByteArray) (A1 A2 : Option Addr) (c1 c2 : Nat) (l1 l2 : List SPrp) (w : World) (h1 : PropsIn w A1 c1 l1) (h2 : PropsIn w A2 c2 l2) (hno : lawProps l1 = false ∨ lawProps l1 = true ∧ lawProps l2 = false ∨ lawProps l1 = true ∧ lawProps l2 = true ∧ (s1.size > 200 ∨ s1.size ≤ 200 ∧ s2.size > 200)) :
    Calls Try.prog 3 #[.agg #[.int .i64 i1, .string s1, .slice A1 l1.length c1], .agg #[.int .i64 i2, .string s2, .slice A2 l2.length c2], .agg #[.int .i64 x, .int .i64 y]] w fun e w' => e = .returned (.bool true) ∧ Below w.heap.size w w' := by
  have H1 := Lib.hid h1; clear h1
  have H2 := Lib.hid h2; clear h2
  have hfirst : True := trivial
  have hfirst2 : True := trivial
  have HN := Lib.hid (Bx.new w (.int .i64 i1) (.string s1) (.slice A1 l1.length c1) (.int .i64 i2) (.string s2) (.slice A2 l2.length c2) (.int .i64 x) (.int .i64 y) 24 24 25)
  rcases hno with hn | ⟨hn1, hn⟩ | ⟨hn1, hn2, hn | ⟨hn3, hn⟩⟩
  · go_enter Try.func3, Try.ntmps3
    go_wp2_with (first
      | (go_at_call 15; clear hfirst; refine (law21_awake_calls _).mono ?_; rintro e wa ⟨rfl, hba⟩; have HB := Lib.hid (HN.out.keep hba); clear hba HN; obtain ⟨x0, x1, x2, y0, y1, y2, z0, z1, -⟩ := HB.out)
      | (go_at_call 16; clear hfirst2; refine (law21_props_calls A1 c1 l1 _ (Kd.C_below H1.out.row HB.out.low)).mono ?_; rw [hn]; rintro e wp ⟨rfl, rfl⟩)
      | (go_at_call 15; refine (law21_awake_calls _).mono ?_; rintro e wb ⟨rfl, hbb⟩))
    go_ret
    exact ⟨rfl, keepB0 hbb HB.out.low⟩
  · go_enter Try.func3, Try.ntmps3
    go_wp2_with (first
      | (go_at_call 15; clear hfirst; refine (law21_awake_calls _).mono ?_; rintro e wa ⟨rfl, hba⟩; have HB := Lib.hid (HN.out.keep hba); clear hba HN; obtain ⟨x0, x1, x2, y0, y1, y2, z0, z1, -⟩ := HB.out)
      | (go_at_call 16; clear hfirst2; refine (law21_props_calls A1 c1 l1 _ (Kd.C_below H1.out.row HB.out.low)).mono ?_; rw [hn1]; rintro e wp ⟨rfl, rfl⟩)
      | (go_at_call 16; refine (law21_props_calls A2 c2 l2 _ (Kd.C_below H2.out.row HB.out.low)).mono ?_; rw [hn]; rintro e wp ⟨rfl, rfl⟩)
      | (go_at_call 15; refine (law21_awake_calls _).mono ?_; rintro e wb ⟨rfl, hbb⟩))
    go_ret
    exact ⟨rfl, keepB0 hbb HB.out.low⟩
  · have hn' : (200 : Int) < (s1.size : Int) := by omega
    go_enter Try.func3, Try.ntmps3
    go_wp2_with (first
      | (go_at_call 15; clear hfirst; refine (law21_awake_calls _).mono ?_; rintro e wa ⟨rfl, hba⟩; have HB := Lib.hid (HN.out.keep hba); clear hba HN; obtain ⟨x0, x1, x2, y0, y1, y2, z0, z1, -⟩ := HB.out)
      | (go_at_call 16; clear hfirst2; refine (law21_props_calls A1 c1 l1 _ (Kd.C_below H1.out.row HB.out.low)).mono ?_; rw [hn1]; rintro e wp ⟨rfl, rfl⟩)
      | (go_at_call 16; refine (law21_props_calls A2 c2 l2 _ (Kd.C_below H2.out.row HB.out.low)).mono ?_; rw [hn2]; rintro e wp ⟨rfl, rfl⟩)
      | (go_at_call 15; refine (law21_awake_calls _).mono ?_; rintro e wb ⟨rfl, hbb⟩))
    go_ret
    exact ⟨rfl, keepB0 hbb HB.out.low⟩
  · have hn' : (200 : Int) < (s2.size : Int) := by omega
    have hn4 : ¬ (200 : Int) < (s1.size : Int) := by omega
    go_enter Try.func3, Try.ntmps3
    go_wp2_with (first
      | (go_at_call 15; clear hfirst; refine (law21_awake_calls _).mono ?_; rintro e wa ⟨rfl, hba⟩; have HB := Lib.hid (HN.out.keep hba); clear hba HN; obtain ⟨x0, x1, x2, y0, y1, y2, z0, z1, -⟩ := HB.out)
      | (go_at_call 16; clear hfirst2; refine (law21_props_calls A1 c1 l1 _ (Kd.C_below H1.out.row HB.out.low)).mono ?_; rw [hn1]; rintro e wp ⟨rfl, rfl⟩)
      | (go_at_call 16; refine (law21_props_calls A2 c2 l2 _ (Kd.C_below H2.out.row HB.out.low)).mono ?_; rw [hn2]; rintro e wp ⟨rfl, rfl⟩)
      | (go_at_call 15; refine (law21_awake_calls _).mono ?_; rintro e wb ⟨rfl, hbb⟩))
    go_ret
    exact ⟨rfl, keepB0 hbb HB.out.low⟩
end Go.Proofs.Ytonbnlfijmapfaa
