/- Texts of this proof, joined: L18, O1, O3, O4, M18. No condition. -/
import Derived.Test.YtonbnlfijmapfaaG4
import Derived.OpenShut
/- cobweblaw21.WebApart. -/
namespace Go.Proofs.Ytonbnlfijmapfaa
open Go.RowKit Go.Shelf Go.Proofs.YtonbnlfijmapfaaW.PrintWords
set_option linter.unusedVariables false
set_option linter.unusedSimpArgs false

/-- What is told of properties that came in. -/
structure PropsIn (w : World) (A : Option Addr) (c : Nat) (l : List SPrp) : Prop where
  row : kPrp.C w A l.length l
  rng : ranged l
  cap : l.length ≤ c
/-- The variables of WebApart that lie in memory. -/
def Bx (w0 : World) (v0 v1 v2 u0 u1 u2 t0 t1 : Value) (W : World) : Prop :=
  W.cell? ⟨w0.heap.size, 0, none⟩ = some v0 ∧ W.cell? ⟨w0.heap.size, 1, none⟩ = some v1 ∧ W.cell? ⟨w0.heap.size, 2, none⟩ = some v2 ∧ W.cell? ⟨w0.heap.size + 1, 0, none⟩ = some u0 ∧ W.cell? ⟨w0.heap.size + 1, 1, none⟩ = some u1 ∧ W.cell? ⟨w0.heap.size + 1, 2, none⟩ = some u2 ∧ W.cell? ⟨w0.heap.size + 2, 0, none⟩ = some t0 ∧ W.cell? ⟨w0.heap.size + 2, 1, none⟩ = some t1 ∧ Below w0.heap.size w0 W
theorem Bx.keep {w0 W W2 : World} {v0 v1 v2 u0 u1 u2 t0 t1 : Value} (hb : Below W.heap.size W W2) (h : Bx w0 v0 v1 v2 u0 u1 u2 t0 t1 W) : Bx w0 v0 v1 v2 u0 u1 u2 t0 t1 W2 := keepB8 hb h
theorem Bx.low {w0 W : World} {v0 v1 v2 u0 u1 u2 t0 t1 : Value} (h : Bx w0 v0 v1 v2 u0 u1 u2 t0 t1 W) : Below w0.heap.size w0 W := h.2.2.2.2.2.2.2.2
theorem Bx.new (w0 : World) (v0 v1 v2 u0 u1 u2 t0 t1 : Value) (a b c : Nat) : Bx w0 v0 v1 v2 u0 u1 u2 t0 t1 (((w0.alloc (.cells #[v0, v1, v2] a)).alloc (.cells #[u0, u1, u2] b)).alloc (.cells #[t0, t1] c)) := by
  have k1 := blk_alloc (blk_alloc (blk_new w0 #[v0, v1, v2] a) (.cells #[u0, u1, u2] b)) (.cells #[t0, t1] c)
  have k2 := blk_alloc (blk_new (w0.alloc (.cells #[v0, v1, v2] a)) #[u0, u1, u2] b) (.cells #[t0, t1] c)
  have k3 := blk_new ((w0.alloc (.cells #[v0, v1, v2] a)).alloc (.cells #[u0, u1, u2] b)) #[t0, t1] c
  have e2 : (w0.alloc (.cells #[v0, v1, v2] a)).heap.size = w0.heap.size + 1 := by simp
  have e3 : ((w0.alloc (.cells #[v0, v1, v2] a)).alloc (.cells #[u0, u1, u2] b)).heap.size = w0.heap.size + 2 := by simp
  rw [e2] at k2
  rw [e3] at k3
  exact ⟨blk_cell k1 0, blk_cell k1 1, blk_cell k1 2, blk_cell k2 0, blk_cell k2 1, blk_cell k2 2, blk_cell k3 0, blk_cell k3 1, keepB0 (below_al _ _) (keepB0 (below_al _ _) (below_al _ _))⟩

set_option maxRecDepth 100000 in
set_option maxHeartbeats 8000000 in
theorem law21_WebApart_no (i1 i2 x y : Int) (s1 s2 : ByteArray) (A1 A2 : Option Addr) (c1 c2 : Nat) (l1 l2 : List SPrp) (w : World) (h1 : PropsIn w A1 c1 l1) (h2 : PropsIn w A2 c2 l2) (hno : lawProps l1 = false ∨ lawProps l1 = true ∧ lawProps l2 = false ∨ lawProps l1 = true ∧ lawProps l2 = true ∧ (s1.size > 200 ∨ s1.size ≤ 200 ∧ s2.size > 200)) :
    Calls Try.prog 3 #[.agg #[.int .i64 i1, .string s1, .slice A1 l1.length c1], .agg #[.int .i64 i2, .string s2, .slice A2 l2.length c2], .agg #[.int .i64 x, .int .i64 y]] w fun e w' => e = .returned (.bool true) ∧ Below w.heap.size w w' := by
  have H1 := Lib.hid h1; clear h1
  have H2 := Lib.hid h2; clear h2
  have hfirst : True := trivial
  have hfirst2 : True := trivial
  have HN := Lib.hid (Bx.new w (.int .i64 i1) (.string s1) (.slice A1 l1.length c1) (.int .i64 i2) (.string s2) (.slice A2 l2.length c2) (.int .i64 x) (.int .i64 y) 24 24 25)
  rcases hno with hn | ⟨hn1, hn⟩ | ⟨hn1, hn2, hn | ⟨hn3, hn⟩⟩
  · go_enter Try.func3, Try.ntmps3
    go_wp2_with (first
      | (go_at_call 15; clear hfirst; refine (law21_awake_calls _).mono ?_; rintro e wa ⟨rfl, hba⟩; have HB := Lib.hid (HN.out.keep hba); clear hba HN; obtain ⟨x0, x1, x2, y0, y1, y2, z0, z1, -⟩ := HB.out)
      | (go_at_call 16; clear hfirst2; refine (law21_props_calls A1 c1 l1 _ (Kd.C_below H1.out.row HB.out.low)).mono ?_; rw [hn]; rintro e wp ⟨rfl, rfl⟩)
      | (go_at_call 15; refine (law21_awake_calls _).mono ?_; rintro e wb ⟨rfl, hbb⟩))
    go_ret
    exact ⟨rfl, keepB0 hbb HB.out.low⟩
  · go_enter Try.func3, Try.ntmps3
    go_wp2_with (first
      | (go_at_call 15; clear hfirst; refine (law21_awake_calls _).mono ?_; rintro e wa ⟨rfl, hba⟩; have HB := Lib.hid (HN.out.keep hba); clear hba HN; obtain ⟨x0, x1, x2, y0, y1, y2, z0, z1, -⟩ := HB.out)
      | (go_at_call 16; clear hfirst2; refine (law21_props_calls A1 c1 l1 _ (Kd.C_below H1.out.row HB.out.low)).mono ?_; rw [hn1]; rintro e wp ⟨rfl, rfl⟩)
      | (go_at_call 16; refine (law21_props_calls A2 c2 l2 _ (Kd.C_below H2.out.row HB.out.low)).mono ?_; rw [hn]; rintro e wp ⟨rfl, rfl⟩)
      | (go_at_call 15; refine (law21_awake_calls _).mono ?_; rintro e wb ⟨rfl, hbb⟩))
    go_ret
    exact ⟨rfl, keepB0 hbb HB.out.low⟩
  · have hn' : (200 : Int) < (s1.size : Int) := by omega
    go_enter Try.func3, Try.ntmps3
    go_wp2_with (first
      | (go_at_call 15; clear hfirst; refine (law21_awake_calls _).mono ?_; rintro e wa ⟨rfl, hba⟩; have HB := Lib.hid (HN.out.keep hba); clear hba HN; obtain ⟨x0, x1, x2, y0, y1, y2, z0, z1, -⟩ := HB.out)
      | (go_at_call 16; clear hfirst2; refine (law21_props_calls A1 c1 l1 _ (Kd.C_below H1.out.row HB.out.low)).mono ?_; rw [hn1]; rintro e wp ⟨rfl, rfl⟩)
      | (go_at_call 16; refine (law21_props_calls A2 c2 l2 _ (Kd.C_below H2.out.row HB.out.low)).mono ?_; rw [hn2]; rintro e wp ⟨rfl, rfl⟩)
      | (go_at_call 15; refine (law21_awake_calls _).mono ?_; rintro e wb ⟨rfl, hbb⟩))
    go_ret
    exact ⟨rfl, keepB0 hbb HB.out.low⟩
  · have hn' : (200 : Int) < (s2.size : Int) := by omega
    have hn4 : ¬ (200 : Int) < (s1.size : Int) := by omega
    go_enter Try.func3, Try.ntmps3
    go_wp2_with (first
      | (go_at_call 15; clear hfirst; refine (law21_awake_calls _).mono ?_; rintro e wa ⟨rfl, hba⟩; have HB := Lib.hid (HN.out.keep hba); clear hba HN; obtain ⟨x0, x1, x2, y0, y1, y2, z0, z1, -⟩ := HB.out)
      | (go_at_call 16; clear hfirst2; refine (law21_props_calls A1 c1 l1 _ (Kd.C_below H1.out.row HB.out.low)).mono ?_; rw [hn1]; rintro e wp ⟨rfl, rfl⟩)
      | (go_at_call 16; refine (law21_props_calls A2 c2 l2 _ (Kd.C_below H2.out.row HB.out.low)).mono ?_; rw [hn2]; rintro e wp ⟨rfl, rfl⟩)
      | (go_at_call 15; refine (law21_awake_calls _).mono ?_; rintro e wb ⟨rfl, hbb⟩))
    go_ret
    exact ⟨rfl, keepB0 hbb HB.out.low⟩
end Go.Proofs.Ytonbnlfijmapfaa
/- What came in, opened: arguments. No condition. -/
namespace Go.Proofs.Ytonbnlfijmapfaa
set_option linter.constructorNameAsVariable false
open Go.RowKit Go.ChangeShapes Go.WideShapes Go.Proofs.YtonbnlfijmapfaaW.PrintWords
set_option linter.unusedVariables false
set_option linter.unusedSimpArgs false

set_option maxRecDepth 100000
theorem okWide_ends {W : World} {r : Reach} {b : Nat} {v : Value} {n : Nat} {e t : TypeId} (ht : Try.prog.underlying t = some (.array n e)) (h : Value.okWide Try.prog W r b t v) : ∃ cs, v = .agg cs ∧ cs.size = Try.prog.cellsOf t := by
  simp only [Value.okWide, ht] at h
  obtain ⟨cs, h1, h2, _⟩ := h
  exact ⟨cs, h1, h2⟩
section
variable {H : Type} {enc : TypeId × Value → H} {W : World} {sp : Nat → Bool} {held : Bool} {r : Reach} {b : Nat} {v : Value} {d : DataW H} {p : List MemPlace}
theorem wf_range {n : Int} (h : (Lit.int .i64 n).wf = true) : -9223372036854775808 ≤ n ∧ n ≤ 9223372036854775807 := by
  simpa [Lit.wf, IntKind.min, IntKind.max, IntKind.signed, IntKind.bits] using h
theorem open_vert (hv : Value.okWide Try.prog W r b 24 v) (h : DataW.Trod enc Try.prog W 0 sp held 24 v d p) :
    ∃ (id : Int) (s : ByteArray) (A : Option Addr) (c : Nat) (l : List SPrp), v = .agg #[.int .i64 id, .string s, .slice A l.length c] ∧ PropsIn W A c l ∧ (-9223372036854775808 ≤ id ∧ id ≤ 9223372036854775807) ∧ s.size ≤ maxLen := by
  obtain ⟨cs, rfl, -⟩ := okWide_struct Try.underlying24 hv
  obtain ⟨fuel, hf⟩ := h
  obtain ⟨x, hK, hg⟩ := opens_Vert enc W sp held fuel _ _ hf
  obtain ⟨A, c, e, hle, hC⟩ := kVert_open hK
  have e2 : cs.toList = [.int .i64 x.f0, .string x.f1, .slice A x.f2.length c] := by simpa [Value.cells] using e
  refine ⟨x.f0, x.f1, A, c, x.f2, by rw [← Array.toList_inj.1 (show cs.toList = (#[Value.int .i64 x.f0, .string x.f1, .slice A x.f2.length c] : Array Value).toList from e2)], ⟨hC, fun q hq => wf_range (hg.2.2 q hq).2.2.1, hle⟩, wf_range hg.1, hg.2.1⟩
theorem open_ends (hv : Value.okWide Try.prog W r b 25 v) (h : DataW.Trod enc Try.prog W 0 sp held 25 v d p) : ∃ x y : Int, v = .agg #[.int .i64 x, .int .i64 y] := by
  obtain ⟨cs, rfl, -⟩ := okWide_ends Try.underlying25 hv
  obtain ⟨fuel, hf⟩ := h
  obtain ⟨xs, m, _, _, hl, hn, hx⟩ := DataW.trod_array Try.underlying25 hf
  have hl2 : (Value.agg cs).cells.toList.length = 2 := hl.trans (by kernel_rfl)
  obtain ⟨c0, c1, e⟩ := len2 hl2
  obtain ⟨x0, x1, rfl⟩ := len2 hn
  have g0 := hx 0 (by omega)
  have g1 := hx 1 (by omega)
  rw [e] at g0 g1
  simp [co_int] at g0 g1
  obtain ⟨n0, k0, -⟩ := DataW.trod_int Try.underlying3 g0
  obtain ⟨n1, k1, -⟩ := DataW.trod_int Try.underlying3 g1
  simp only [List.cons.injEq, and_true] at k0 k1
  subst k0; subst k1
  refine ⟨n0, n1, ?_⟩
  have e2 : cs.toList = (#[Value.int .i64 n0, .int .i64 n1] : Array Value).toList := by simpa [Value.cells] using e
  rw [Array.toList_inj.1 e2]
end
end Go.Proofs.Ytonbnlfijmapfaa
/- What came in, opened: an edge, a text. No condition. -/
namespace Go.Proofs.Ytonbnlfijmapfaa
set_option linter.constructorNameAsVariable false
open Go.RowKit Go.ChangeShapes Go.WideShapes Go.Proofs.YtonbnlfijmapfaaW.PrintWords
set_option linter.unusedVariables false
set_option linter.unusedSimpArgs false

set_option maxRecDepth 100000
theorem opens_Edg : Opens kEdg 35 (fun v => (Lit.int .i64 v.f0).wf = true ∧ v.f1.size ≤ maxLen ∧ (Lit.int .i64 v.f2).wf = true ∧ (Lit.int .i64 v.f3).wf = true ∧ ∀ p ∈ v.f4, p.f0.size ≤ maxLen ∧ (Lit.int .i64 p.f1.f0).wf = true ∧ (Lit.int .i64 p.f1.f1).wf = true ∧ p.f1.f2.size ≤ maxLen) := by
  intro H enc w sp held fuel cs x h
  obtain ⟨xs, n, _, _, hl, hn, hx⟩ := DataW.trod_struct Try.underlying35 h
  have hl3 : cs.length = 5 := hl.trans co_Edg
  have hn3 : xs.length = 5 := hn
  obtain ⟨c0, c1, c2, c3, c4, rfl⟩ := len5 hl3
  obtain ⟨x0, x1, x2, x3, x4, rfl⟩ := len5 hn3
  clear hl hn hl3 hn3 h
  obtain ⟨a0, k0, g0⟩ := opens_int Try.underlying3 enc w sp held n [c0] x0 (by have h := hx 0 _ rfl; simp [co_int, co_string, co_Value, co_Prp, co_slPrp] at h; exact h)
  obtain ⟨a1, k1, g1⟩ := opens_string Try.underlying9 enc w sp held n [c1] x1 (by have h := hx 1 _ rfl; simp [co_int, co_string, co_Value, co_Prp, co_slPrp] at h; exact h)
  obtain ⟨a2, k2, g2⟩ := opens_int Try.underlying3 enc w sp held n [c2] x2 (by have h := hx 2 _ rfl; simp [co_int, co_string, co_Value, co_Prp, co_slPrp] at h; exact h)
  obtain ⟨a3, k3, g3⟩ := opens_int Try.underlying3 enc w sp held n [c3] x3 (by have h := hx 3 _ rfl; simp [co_int, co_string, co_Value, co_Prp, co_slPrp] at h; exact h)
  obtain ⟨a4, ⟨A4, d4, k4, l4, r4⟩, g4⟩ := opens_slice Try.underlying22 (d := kPrp) co_Prp opens_Prp enc w sp held n [c4] x4 (by have h := hx 4 _ rfl; simp [co_int, co_string, co_Value, co_Prp, co_slPrp] at h; exact h)
  cases k0; cases k1; cases k2; cases k3; cases k4
  exact ⟨⟨a0, a1, a2, a3, a4⟩, kEdg_mk _ _ l4 r4, g0, g1, g2, g3, g4⟩
section
variable {H : Type} {enc : TypeId × Value → H} {W : World} {sp : Nat → Bool} {held : Bool} {r : Reach} {b : Nat} {v : Value} {d : DataW H} {p : List MemPlace}
theorem open_edge (hv : Value.okWide Try.prog W r b 35 v) (h : DataW.Trod enc Try.prog W 0 sp held 35 v d p) :
    ∃ (id : Int) (s : ByteArray) (x y : Int) (A : Option Addr) (c : Nat) (l : List SPrp), v = .agg #[.int .i64 id, .string s, .int .i64 x, .int .i64 y, .slice A l.length c] ∧ PropsIn W A c l ∧ (-9223372036854775808 ≤ id ∧ id ≤ 9223372036854775807) ∧ s.size ≤ maxLen := by
  obtain ⟨cs, rfl, -⟩ := okWide_struct Try.underlying35 hv
  obtain ⟨fuel, hf⟩ := h
  obtain ⟨x, hK, hg⟩ := opens_Edg enc W sp held fuel _ _ hf
  obtain ⟨A, c, e, hle, hC⟩ := kEdg_open hK
  have e2 : cs.toList = [.int .i64 x.f0, .string x.f1, .int .i64 x.f2, .int .i64 x.f3, .slice A x.f4.length c] := by simpa [Value.cells] using e
  refine ⟨x.f0, x.f1, x.f2, x.f3, A, c, x.f4, by rw [← Array.toList_inj.1 (show cs.toList = (#[Value.int .i64 x.f0, .string x.f1, .int .i64 x.f2, .int .i64 x.f3, .slice A x.f4.length c] : Array Value).toList from e2)], ⟨hC, fun q hq => wf_range (hg.2.2.2.2 q hq).2.2.1, hle⟩, wf_range hg.1, hg.2.1⟩
theorem open_str (hv : Value.okWide Try.prog W r b 9 v) (h : DataW.Trod enc Try.prog W 0 sp held 9 v d p) : ∃ s : ByteArray, v = .string s ∧ s.size ≤ maxLen := by
  obtain ⟨s, rfl⟩ := okWide_string Try.underlying9 hv
  obtain ⟨fuel, hf⟩ := h
  obtain ⟨s', h, hx, hs⟩ := DataW.trod_string Try.underlying9 hf
  simp [Value.cells] at h
  subst h
  exact ⟨s, rfl, hs⟩
end
end Go.Proofs.Ytonbnlfijmapfaa
/- What came in, opened: rows of whatever elements; parts of a graph. No condition. -/
namespace Go.Proofs.Ytonbnlfijmapfaa
set_option linter.constructorNameAsVariable false
open Go.RowKit Go.ChangeShapes Go.WideShapes Go.Proofs.YtonbnlfijmapfaaW.PrintWords
set_option linter.unusedVariables false
set_option linter.unusedSimpArgs false

set_option maxRecDepth 100000
def gPrp (p : SPrp) : Prop := p.f0.size ≤ maxLen ∧ (Lit.int .i64 p.f1.f0).wf = true ∧ (Lit.int .i64 p.f1.f1).wf = true ∧ p.f1.f2.size ≤ maxLen
def gVert (v : SVert) : Prop := (Lit.int .i64 v.f0).wf = true ∧ v.f1.size ≤ maxLen ∧ ∀ p ∈ v.f2, gPrp p
def gEdg (v : SEdg) : Prop := (Lit.int .i64 v.f0).wf = true ∧ v.f1.size ≤ maxLen ∧ (Lit.int .i64 v.f2).wf = true ∧ (Lit.int .i64 v.f3).wf = true ∧ ∀ p ∈ v.f4, gPrp p
section
variable {H : Type} {enc : TypeId × Value → H} {W : World} {sp : Nat → Bool} {held : Bool} {r : Reach} {b : Nat} {v : Value} {d : DataW H} {p : List MemPlace}
theorem open_row {α : Type} [Inhabited α] {k : Kd α} {T e : TypeId} {g : α → Prop} (ht : Try.prog.underlying T = some (.slice e)) (hc : Try.prog.cellsOf e = k.sz) (ho : Opens k e g)
    (hv : Value.okWide Try.prog W r b T v) (h : DataW.Trod enc Try.prog W 0 sp held T v d p) : ∃ (A : Option Addr) (c : Nat) (l : List α), v = .slice A l.length c ∧ k.C W A l.length l ∧ l.length ≤ c ∧ ∀ x ∈ l, g x := by
  obtain ⟨a, n, c, rfl⟩ := okWide_slice ht hv
  obtain ⟨fuel, hf⟩ := h
  obtain ⟨l, ⟨A, c2, e2, hl, hC⟩, hg⟩ := opens_slice ht hc ho enc W sp held fuel _ _ hf
  have e3 : Value.slice a n c = .slice A l.length c2 := by simpa [Value.cells] using e2
  exact ⟨A, c2, l, e3, hC, hl, hg⟩
theorem open_ints (hv : Value.okWide Try.prog W r b 49 v) (h : DataW.Trod enc Try.prog W 0 sp held 49 v d p) : ∃ (A : Option Addr) (c : Nat) (l : List Int), v = .slice A l.length c ∧ (Kd.int .i64).C W A l.length l ∧ l.length ≤ c ∧ ∀ x ∈ l, (Lit.int .i64 x).wf = true :=
  open_row Try.underlying49 co_int (opens_int Try.underlying3) hv h
theorem open_props (hv : Value.okWide Try.prog W r b 22 v) (h : DataW.Trod enc Try.prog W 0 sp held 22 v d p) : ∃ (A : Option Addr) (c : Nat) (l : List SPrp), v = .slice A l.length c ∧ kPrp.C W A l.length l ∧ l.length ≤ c ∧ ∀ x ∈ l, gPrp x :=
  open_row Try.underlying22 co_Prp opens_Prp hv h
theorem open_verts (hv : Value.okWide Try.prog W r b 32 v) (h : DataW.Trod enc Try.prog W 0 sp held 32 v d p) : ∃ (A : Option Addr) (c : Nat) (l : List SVert), v = .slice A l.length c ∧ kVert.C W A l.length l ∧ l.length ≤ c ∧ ∀ x ∈ l, gVert x :=
  open_row Try.underlying32 co_Vert opens_Vert hv h
theorem open_edges (hv : Value.okWide Try.prog W r b 72 v) (h : DataW.Trod enc Try.prog W 0 sp held 72 v d p) : ∃ (A : Option Addr) (c : Nat) (l : List SEdg), v = .slice A l.length c ∧ kEdg.C W A l.length l ∧ l.length ≤ c ∧ ∀ x ∈ l, gEdg x :=
  open_row Try.underlying72 co_Edg opens_Edg hv h
end
end Go.Proofs.Ytonbnlfijmapfaa
/- cobweblaw16.props, GraphChecks. No condition. -/
namespace Go.Proofs.Ytonbnlfijmapfaa
open Go.RowKit Go.Shelf Go.Proofs.YtonbnlfijmapfaaW.PrintWords
set_option linter.unusedVariables false
set_option linter.unusedSimpArgs false

set_option maxHeartbeats 2000000 in
theorem law16_props_calls (A : Option Addr) (c : Nat) (l : List SPrp) (w : World) (h : kPrp.C w A l.length l) :
    Calls Try.prog 45 #[.slice A l.length c] w fun e w' => e = .returned (.bool (lawProps l)) ∧ w = w' := by
  have hm := Kd.C_max h
  have HX := Lib.hid h; clear h
  by_cases h30 : l.length ≤ 30
  · have hz : ¬ (30 : Int) < (l.length : Int) := by omega
    go_enter Try.func45, Try.ntmps45
    go_wp2
    go_loopw [3] (fun v3 wr => ∃ k : Nat, k ≤ l.length ∧ v3 = .int .i64 k ∧ wr = w ∧ Hid ((l.drop k).all small = l.all small)) (fun v3 _ => l.length - (intOf v3).toNat)
    case atStart => exact ⟨0, by omega, rfl, rfl, Lib.hid rfl⟩
    case round =>
      obtain ⟨k, hk, rfl, rfl, HT⟩ := hrel
      by_cases hlt : k < l.length
      · have hlt2 : (k : Int) < (l.length : Int) := by omega
        have HS := Lib.hid (drop_cons l k zPrp hlt)
        obtain ⟨ad, rfl, g0, g1, g2, g3⟩ := at_Prp HX.out (k : Int) (by omega) (by omega)
        simp only [Int.toNat_natCast, rd_Prp] at g0 g1 g2 g3
        cases hy : l.getD k zPrp with
        | mk y0 yv =>
        cases yv with
        | mk y1 y2 y3 =>
        rw [hy] at g0 g1 g2 g3 HS
        clear hy
        simp only at g0 g1 g2 g3
        by_cases h0 : y0.size ≤ 100
        · have e0 : ¬ (100 : Int) < (y0.size : Int) := by omega
          by_cases h1 : y3.size ≤ 300
          · have e1 : ¬ (300 : Int) < (y3.size : Int) := by omega
            go_wp2
            go_roundw
            case rel => exact ⟨k + 1, by omega, by go_num, by trivial, Lib.hid (by rw [← HT.out, HS.out]; simp [small, h0, h1])⟩
            case measure => simp [intOf]; omega
          · have e1 : (300 : Int) < (y3.size : Int) := by omega
            go_wp2
            go_ret
            exact ⟨ret_bool (by rw [lawProps, ← HT.out, HS.out]; simp [small, h1]), rfl⟩
        · have e0 : (100 : Int) < (y0.size : Int) := by omega
          go_wp2
          go_ret
          exact ⟨ret_bool (by rw [lawProps, ← HT.out, HS.out]; simp [small, h0]), rfl⟩
      · have hlt2 : ¬ (k : Int) < (l.length : Int) := by omega
        go_wp2
        go_ret
        refine ⟨ret_bool ?_, rfl⟩
        have := HT.out
        rw [List.drop_eq_nil_of_le (by omega)] at this
        rw [lawProps, ← this, decide_eq_true h30]; rfl
  · have hz : (30 : Int) < (l.length : Int) := by omega
    go_enter Try.func45, Try.ntmps45
    go_wp2
    go_ret
    exact ⟨ret_bool (by rw [lawProps, decide_eq_false h30]; rfl), rfl⟩


set_option maxRecDepth 100000 in
set_option maxHeartbeats 4000000 in
theorem law16_GraphChecks_calls (label : ByteArray) (A B : Option Addr) (c d : Nat) (ps : List SPrp) (ids : List Int) (w : World) (hp : kPrp.C w A ps.length ps) (hi : (Kd.int .i64).C w B ids.length ids) :
    Calls Try.prog 7 #[.string label, .slice A ps.length c, .slice B ids.length d] w fun e w' => e = .returned (.bool true) ∧ Below w.heap.size w w' := by
  have HP := Lib.hid hp; clear hp
  have HI := Lib.hid hi; clear hi
  have p1 : True := trivial
  have p2 : True := trivial
  by_cases h1 : label.size ≤ 500
  · have h1' : ¬ (500 : Int) < (label.size : Int) := by omega
    cases h2 : lawProps ps with
    | true =>
      have HF := Lib.hid (small_fits h2)
      by_cases h3 : ids.length ≤ 30
      · have h3' : ¬ (30 : Int) < (ids.length : Int) := by omega
        go_enter Try.func7, Try.ntmps7
        go_wp2_with (first
          | (go_at_call 44; refine (law16_awake_calls _).mono ?_; rintro e w1 ⟨rfl, hb⟩; have HB1 := Lib.hid hb; clear hb)
          | (go_at_call 45; refine (law16_props_calls A c ps _ (Kd.C_below HP.out HB1.out)).mono ?_; rw [h2]; rintro e w2 ⟨rfl, rfl⟩)
          | (go_at_call 46; refine (graph_Check_calls label A B c d ps ids _ (by omega) (Kd.C_below HP.out HB1.out) HF.out (Kd.C_below HI.out HB1.out)).mono ?_; rintro e w3 ⟨rfl, hb⟩; have HB3 := Lib.hid (keepB0 hb HB1.out); clear hb)
          | (go_at_call 36; refine (ref16_Check_calls label A B c d ps ids _ (by omega) (Kd.C_below HP.out HB3.out) HF.out (Kd.C_below HI.out HB3.out)).mono ?_; rintro e w4 ⟨rfl, hb⟩; have HB4 := Lib.hid (keepB0 hb HB3.out); clear hb))
        go_ret
        exact ⟨by simp, HB4.out⟩
      · have h3' : (30 : Int) < (ids.length : Int) := by omega
        go_enter Try.func7, Try.ntmps7
        go_wp2_with (first
          | (go_at_call 44; clear p1; refine (law16_awake_calls _).mono ?_; rintro e w1 ⟨rfl, hb⟩; have HB1 := Lib.hid hb; clear hb)
          | (go_at_call 45; refine (law16_props_calls A c ps _ (Kd.C_below HP.out HB1.out)).mono ?_; rw [h2]; rintro e w2 ⟨rfl, rfl⟩)
          | (go_at_call 44; clear p2; refine (law16_awake_calls _).mono ?_; rintro e w3 ⟨rfl, hb⟩; have HB3 := Lib.hid (keepB0 hb HB1.out); clear hb))
        go_ret
        exact ⟨rfl, HB3.out⟩
    | false =>
      go_enter Try.func7, Try.ntmps7
      go_wp2_with (first
        | (go_at_call 44; clear p1; refine (law16_awake_calls _).mono ?_; rintro e w1 ⟨rfl, hb⟩; have HB1 := Lib.hid hb; clear hb)
        | (go_at_call 45; refine (law16_props_calls A c ps _ (Kd.C_below HP.out HB1.out)).mono ?_; rw [h2]; rintro e w2 ⟨rfl, rfl⟩)
        | (go_at_call 44; clear p2; refine (law16_awake_calls _).mono ?_; rintro e w3 ⟨rfl, hb⟩; have HB3 := Lib.hid (keepB0 hb HB1.out); clear hb))
      go_ret
      exact ⟨rfl, HB3.out⟩
  · have h1' : (500 : Int) < (label.size : Int) := by omega
    go_enter Try.func7, Try.ntmps7
    go_wp2_with (first
      | (go_at_call 44; clear p1; refine (law16_awake_calls _).mono ?_; rintro e w1 ⟨rfl, hb⟩; have HB1 := Lib.hid hb; clear hb)
      | (go_at_call 44; clear p2; refine (law16_awake_calls _).mono ?_; rintro e w3 ⟨rfl, hb⟩; have HB3 := Lib.hid (keepB0 hb HB1.out); clear hb))
    go_ret
    exact ⟨rfl, HB3.out⟩
/-- For the row. -/
theorem law16_GraphChecks_row (label : ByteArray) (A : Option Addr) (c : Nat) (ps : List SPrp) (B : Option Addr) (d : Nat) (ids : List Int) (w : World) (hp : kPrp.C w A ps.length ps) (_ : ∀ x ∈ ps, gPrp x) (hi : (Kd.int .i64).C w B ids.length ids) (_ : ∀ x ∈ ids, (Lit.int .i64 x).wf = true) :
    Calls Try.prog 7 #[.string label, .slice A ps.length c, .slice B ids.length d] w fun e w' => e = .returned (.bool true) ∧ Below w.heap.size w w' := law16_GraphChecks_calls label A B c d ps ids w hp hi
end Go.Proofs.Ytonbnlfijmapfaa
