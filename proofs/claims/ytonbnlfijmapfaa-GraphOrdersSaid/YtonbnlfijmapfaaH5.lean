/- Texts of this proof, joined: L18, O1, O3, O4, M18, P9, P10, L40, M19. No condition. -/
import Derived.Test.YtonbnlfijmapfaaH4
import Derived.OpenShut
import Derived.Test.YtonbnlfijmapfaaH3
/- cobweblaw21.WebApart. -/
namespace Go.Proofs.Ytonbnlfijmapfaa
open Go.RowKit Go.Shelf Go.Proofs.YtonbnlfijmapfaaW.PrintWords
set_option linter.unusedVariables false
set_option linter.unusedSimpArgs false

/-- What is told of properties that came in. -/
structure PropsIn (w : World) (A : Option Addr) (c : Nat) (l : List SPrp) : Prop where
  row : kPrp.C w A l.length l
  rng : ranged l
  cap : l.length ≤ c
/-- The variables of WebApart that lie in memory. -/
def Bx (w0 : World) (v0 v1 v2 u0 u1 u2 t0 t1 : Value) (W : World) : Prop :=
  W.cell? ⟨w0.heap.size, 0, none⟩ = some v0 ∧ W.cell? ⟨w0.heap.size, 1, none⟩ = some v1 ∧ W.cell? ⟨w0.heap.size, 2, none⟩ = some v2 ∧ W.cell? ⟨w0.heap.size + 1, 0, none⟩ = some u0 ∧ W.cell? ⟨w0.heap.size + 1, 1, none⟩ = some u1 ∧ W.cell? ⟨w0.heap.size + 1, 2, none⟩ = some u2 ∧ W.cell? ⟨w0.heap.size + 2, 0, none⟩ = some t0 ∧ W.cell? ⟨w0.heap.size + 2, 1, none⟩ = some t1 ∧ Below w0.heap.size w0 W
theorem Bx.keep {w0 W W2 : World} {v0 v1 v2 u0 u1 u2 t0 t1 : Value} (hb : Below W.heap.size W W2) (h : Bx w0 v0 v1 v2 u0 u1 u2 t0 t1 W) : Bx w0 v0 v1 v2 u0 u1 u2 t0 t1 W2 := keepB8 hb h
theorem Bx.low {w0 W : World} {v0 v1 v2 u0 u1 u2 t0 t1 : Value} (h : Bx w0 v0 v1 v2 u0 u1 u2 t0 t1 W) : Below w0.heap.size w0 W := h.2.2.2.2.2.2.2.2
theorem Bx.new (w0 : World) (v0 v1 v2 u0 u1 u2 t0 t1 : Value) (a b c : Nat) : Bx w0 v0 v1 v2 u0 u1 u2 t0 t1 (((w0.alloc (.cells #[v0, v1, v2] a)).alloc (.cells #[u0, u1, u2] b)).alloc (.cells #[t0, t1] c)) := by
  have k1 := blk_alloc (blk_alloc (blk_new w0 #[v0, v1, v2] a) (.cells #[u0, u1, u2] b)) (.cells #[t0, t1] c)
  have k2 := blk_alloc (blk_new (w0.alloc (.cells #[v0, v1, v2] a)) #[u0, u1, u2] b) (.cells #[t0, t1] c)
  have k3 := blk_new ((w0.alloc (.cells #[v0, v1, v2] a)).alloc (.cells #[u0, u1, u2] b)) #[t0, t1] c
  have e2 : (w0.alloc (.cells #[v0, v1, v2] a)).heap.size = w0.heap.size + 1 := by simp
  have e3 : ((w0.alloc (.cells #[v0, v1, v2] a)).alloc (.cells #[u0, u1, u2] b)).heap.size = w0.heap.size + 2 := by simp
  rw [e2] at k2
  rw [e3] at k3
  exact ⟨blk_cell k1 0, blk_cell k1 1, blk_cell k1 2, blk_cell k2 0, blk_cell k2 1, blk_cell k2 2, blk_cell k3 0, blk_cell k3 1, keepB0 (below_al _ _) (keepB0 (below_al _ _) (below_al _ _))⟩

set_option maxRecDepth 100000 in
set_option maxHeartbeats 8000000 in
theorem law21_WebApart_no (i1 i2 x y : Int) (s1 s2 : ByteArray) (A1 A2 : Option Addr) (c1 c2 : Nat) (l1 l2 : List SPrp) (w : World) (h1 : PropsIn w A1 c1 l1) (h2 : PropsIn w A2 c2 l2) (hno : lawProps l1 = false ∨ lawProps l1 = true ∧ lawProps l2 = false ∨ lawProps l1 = true ∧ lawProps l2 = true ∧ (s1.size > 200 ∨ s1.size ≤ 200 ∧ s2.size > 200)) :
    Calls Try.prog 3 #[.agg #[.int .i64 i1, .string s1, .slice A1 l1.length c1], .agg #[.int .i64 i2, .string s2, .slice A2 l2.length c2], .agg #[.int .i64 x, .int .i64 y]] w fun e w' => e = .returned (.bool true) ∧ Below w.heap.size w w' := by
  have H1 := Lib.hid h1; clear h1
  have H2 := Lib.hid h2; clear h2
  have hfirst : True := trivial
  have hfirst2 : True := trivial
  have HN := Lib.hid (Bx.new w (.int .i64 i1) (.string s1) (.slice A1 l1.length c1) (.int .i64 i2) (.string s2) (.slice A2 l2.length c2) (.int .i64 x) (.int .i64 y) 24 24 25)
  rcases hno with hn | ⟨hn1, hn⟩ | ⟨hn1, hn2, hn | ⟨hn3, hn⟩⟩
  · go_enter Try.func3, Try.ntmps3
    go_wp2_with (first
      | (go_at_call 15; clear hfirst; refine (law21_awake_calls _).mono ?_; rintro e wa ⟨rfl, hba⟩; have HB := Lib.hid (HN.out.keep hba); clear hba HN; obtain ⟨x0, x1, x2, y0, y1, y2, z0, z1, -⟩ := HB.out)
      | (go_at_call 16; clear hfirst2; refine (law21_props_calls A1 c1 l1 _ (Kd.C_below H1.out.row HB.out.low)).mono ?_; rw [hn]; rintro e wp ⟨rfl, rfl⟩)
      | (go_at_call 15; refine (law21_awake_calls _).mono ?_; rintro e wb ⟨rfl, hbb⟩))
    go_ret
    exact ⟨rfl, keepB0 hbb HB.out.low⟩
  · go_enter Try.func3, Try.ntmps3
    go_wp2_with (first
      | (go_at_call 15; clear hfirst; refine (law21_awake_calls _).mono ?_; rintro e wa ⟨rfl, hba⟩; have HB := Lib.hid (HN.out.keep hba); clear hba HN; obtain ⟨x0, x1, x2, y0, y1, y2, z0, z1, -⟩ := HB.out)
      | (go_at_call 16; clear hfirst2; refine (law21_props_calls A1 c1 l1 _ (Kd.C_below H1.out.row HB.out.low)).mono ?_; rw [hn1]; rintro e wp ⟨rfl, rfl⟩)
      | (go_at_call 16; refine (law21_props_calls A2 c2 l2 _ (Kd.C_below H2.out.row HB.out.low)).mono ?_; rw [hn]; rintro e wp ⟨rfl, rfl⟩)
      | (go_at_call 15; refine (law21_awake_calls _).mono ?_; rintro e wb ⟨rfl, hbb⟩))
    go_ret
    exact ⟨rfl, keepB0 hbb HB.out.low⟩
  · have hn' : (200 : Int) < (s1.size : Int) := by omega
    go_enter Try.func3, Try.ntmps3
    go_wp2_with (first
      | (go_at_call 15; clear hfirst; refine (law21_awake_calls _).mono ?_; rintro e wa ⟨rfl, hba⟩; have HB := Lib.hid (HN.out.keep hba); clear hba HN; obtain ⟨x0, x1, x2, y0, y1, y2, z0, z1, -⟩ := HB.out)
      | (go_at_call 16; clear hfirst2; refine (law21_props_calls A1 c1 l1 _ (Kd.C_below H1.out.row HB.out.low)).mono ?_; rw [hn1]; rintro e wp ⟨rfl, rfl⟩)
      | (go_at_call 16; refine (law21_props_calls A2 c2 l2 _ (Kd.C_below H2.out.row HB.out.low)).mono ?_; rw [hn2]; rintro e wp ⟨rfl, rfl⟩)
      | (go_at_call 15; refine (law21_awake_calls _).mono ?_; rintro e wb ⟨rfl, hbb⟩))
    go_ret
    exact ⟨rfl, keepB0 hbb HB.out.low⟩
  · have hn' : (200 : Int) < (s2.size : Int) := by omega
    have hn4 : ¬ (200 : Int) < (s1.size : Int) := by omega
    go_enter Try.func3, Try.ntmps3
    go_wp2_with (first
      | (go_at_call 15; clear hfirst; refine (law21_awake_calls _).mono ?_; rintro e wa ⟨rfl, hba⟩; have HB := Lib.hid (HN.out.keep hba); clear hba HN; obtain ⟨x0, x1, x2, y0, y1, y2, z0, z1, -⟩ := HB.out)
      | (go_at_call 16; clear hfirst2; refine (law21_props_calls A1 c1 l1 _ (Kd.C_below H1.out.row HB.out.low)).mono ?_; rw [hn1]; rintro e wp ⟨rfl, rfl⟩)
      | (go_at_call 16; refine (law21_props_calls A2 c2 l2 _ (Kd.C_below H2.out.row HB.out.low)).mono ?_; rw [hn2]; rintro e wp ⟨rfl, rfl⟩)
      | (go_at_call 15; refine (law21_awake_calls _).mono ?_; rintro e wb ⟨rfl, hbb⟩))
    go_ret
    exact ⟨rfl, keepB0 hbb HB.out.low⟩
end Go.Proofs.Ytonbnlfijmapfaa
/- What came in, opened: arguments. No condition. -/
namespace Go.Proofs.Ytonbnlfijmapfaa
set_option linter.constructorNameAsVariable false
open Go.RowKit Go.ChangeShapes Go.WideShapes Go.Proofs.YtonbnlfijmapfaaW.PrintWords
set_option linter.unusedVariables false
set_option linter.unusedSimpArgs false

set_option maxRecDepth 100000
theorem okWide_ends {W : World} {r : Reach} {b : Nat} {v : Value} {n : Nat} {e t : TypeId} (ht : Try.prog.underlying t = some (.array n e)) (h : Value.okWide Try.prog W r b t v) : ∃ cs, v = .agg cs ∧ cs.size = Try.prog.cellsOf t := by
  simp only [Value.okWide, ht] at h
  obtain ⟨cs, h1, h2, _⟩ := h
  exact ⟨cs, h1, h2⟩
section
variable {H : Type} {enc : TypeId × Value → H} {W : World} {sp : Nat → Bool} {held : Bool} {r : Reach} {b : Nat} {v : Value} {d : DataW H} {p : List MemPlace}
theorem wf_range {n : Int} (h : (Lit.int .i64 n).wf = true) : -9223372036854775808 ≤ n ∧ n ≤ 9223372036854775807 := by
  simpa [Lit.wf, IntKind.min, IntKind.max, IntKind.signed, IntKind.bits] using h
theorem open_vert (hv : Value.okWide Try.prog W r b 24 v) (h : DataW.Trod enc Try.prog W 0 sp held 24 v d p) :
    ∃ (id : Int) (s : ByteArray) (A : Option Addr) (c : Nat) (l : List SPrp), v = .agg #[.int .i64 id, .string s, .slice A l.length c] ∧ PropsIn W A c l ∧ (-9223372036854775808 ≤ id ∧ id ≤ 9223372036854775807) ∧ s.size ≤ maxLen := by
  obtain ⟨cs, rfl, -⟩ := okWide_struct Try.underlying24 hv
  obtain ⟨fuel, hf⟩ := h
  obtain ⟨x, hK, hg⟩ := opens_Vert enc W sp held fuel _ _ hf
  obtain ⟨A, c, e, hle, hC⟩ := kVert_open hK
  have e2 : cs.toList = [.int .i64 x.f0, .string x.f1, .slice A x.f2.length c] := by simpa [Value.cells] using e
  refine ⟨x.f0, x.f1, A, c, x.f2, by rw [← Array.toList_inj.1 (show cs.toList = (#[Value.int .i64 x.f0, .string x.f1, .slice A x.f2.length c] : Array Value).toList from e2)], ⟨hC, fun q hq => wf_range (hg.2.2 q hq).2.2.1, hle⟩, wf_range hg.1, hg.2.1⟩
theorem open_ends (hv : Value.okWide Try.prog W r b 25 v) (h : DataW.Trod enc Try.prog W 0 sp held 25 v d p) : ∃ x y : Int, v = .agg #[.int .i64 x, .int .i64 y] := by
  obtain ⟨cs, rfl, -⟩ := okWide_ends Try.underlying25 hv
  obtain ⟨fuel, hf⟩ := h
  obtain ⟨xs, m, _, _, hl, hn, hx⟩ := DataW.trod_array Try.underlying25 hf
  have hl2 : (Value.agg cs).cells.toList.length = 2 := hl.trans (by kernel_rfl)
  obtain ⟨c0, c1, e⟩ := len2 hl2
  obtain ⟨x0, x1, rfl⟩ := len2 hn
  have g0 := hx 0 (by omega)
  have g1 := hx 1 (by omega)
  rw [e] at g0 g1
  simp [co_int] at g0 g1
  obtain ⟨n0, k0, -⟩ := DataW.trod_int Try.underlying3 g0
  obtain ⟨n1, k1, -⟩ := DataW.trod_int Try.underlying3 g1
  simp only [List.cons.injEq, and_true] at k0 k1
  subst k0; subst k1
  refine ⟨n0, n1, ?_⟩
  have e2 : cs.toList = (#[Value.int .i64 n0, .int .i64 n1] : Array Value).toList := by simpa [Value.cells] using e
  rw [Array.toList_inj.1 e2]
end
end Go.Proofs.Ytonbnlfijmapfaa
/- What came in, opened: an edge, a text. No condition. -/
namespace Go.Proofs.Ytonbnlfijmapfaa
set_option linter.constructorNameAsVariable false
open Go.RowKit Go.ChangeShapes Go.WideShapes Go.Proofs.YtonbnlfijmapfaaW.PrintWords
set_option linter.unusedVariables false
set_option linter.unusedSimpArgs false

set_option maxRecDepth 100000
theorem opens_Edg : Opens kEdg 35 (fun v => (Lit.int .i64 v.f0).wf = true ∧ v.f1.size ≤ maxLen ∧ (Lit.int .i64 v.f2).wf = true ∧ (Lit.int .i64 v.f3).wf = true ∧ ∀ p ∈ v.f4, p.f0.size ≤ maxLen ∧ (Lit.int .i64 p.f1.f0).wf = true ∧ (Lit.int .i64 p.f1.f1).wf = true ∧ p.f1.f2.size ≤ maxLen) := by
  intro H enc w sp held fuel cs x h
  obtain ⟨xs, n, _, _, hl, hn, hx⟩ := DataW.trod_struct Try.underlying35 h
  have hl3 : cs.length = 5 := hl.trans co_Edg
  have hn3 : xs.length = 5 := hn
  obtain ⟨c0, c1, c2, c3, c4, rfl⟩ := len5 hl3
  obtain ⟨x0, x1, x2, x3, x4, rfl⟩ := len5 hn3
  clear hl hn hl3 hn3 h
  obtain ⟨a0, k0, g0⟩ := opens_int Try.underlying3 enc w sp held n [c0] x0 (by have h := hx 0 _ rfl; simp [co_int, co_string, co_Value, co_Prp, co_slPrp] at h; exact h)
  obtain ⟨a1, k1, g1⟩ := opens_string Try.underlying9 enc w sp held n [c1] x1 (by have h := hx 1 _ rfl; simp [co_int, co_string, co_Value, co_Prp, co_slPrp] at h; exact h)
  obtain ⟨a2, k2, g2⟩ := opens_int Try.underlying3 enc w sp held n [c2] x2 (by have h := hx 2 _ rfl; simp [co_int, co_string, co_Value, co_Prp, co_slPrp] at h; exact h)
  obtain ⟨a3, k3, g3⟩ := opens_int Try.underlying3 enc w sp held n [c3] x3 (by have h := hx 3 _ rfl; simp [co_int, co_string, co_Value, co_Prp, co_slPrp] at h; exact h)
  obtain ⟨a4, ⟨A4, d4, k4, l4, r4⟩, g4⟩ := opens_slice Try.underlying22 (d := kPrp) co_Prp opens_Prp enc w sp held n [c4] x4 (by have h := hx 4 _ rfl; simp [co_int, co_string, co_Value, co_Prp, co_slPrp] at h; exact h)
  cases k0; cases k1; cases k2; cases k3; cases k4
  exact ⟨⟨a0, a1, a2, a3, a4⟩, kEdg_mk _ _ l4 r4, g0, g1, g2, g3, g4⟩
section
variable {H : Type} {enc : TypeId × Value → H} {W : World} {sp : Nat → Bool} {held : Bool} {r : Reach} {b : Nat} {v : Value} {d : DataW H} {p : List MemPlace}
theorem open_edge (hv : Value.okWide Try.prog W r b 35 v) (h : DataW.Trod enc Try.prog W 0 sp held 35 v d p) :
    ∃ (id : Int) (s : ByteArray) (x y : Int) (A : Option Addr) (c : Nat) (l : List SPrp), v = .agg #[.int .i64 id, .string s, .int .i64 x, .int .i64 y, .slice A l.length c] ∧ PropsIn W A c l ∧ (-9223372036854775808 ≤ id ∧ id ≤ 9223372036854775807) ∧ s.size ≤ maxLen := by
  obtain ⟨cs, rfl, -⟩ := okWide_struct Try.underlying35 hv
  obtain ⟨fuel, hf⟩ := h
  obtain ⟨x, hK, hg⟩ := opens_Edg enc W sp held fuel _ _ hf
  obtain ⟨A, c, e, hle, hC⟩ := kEdg_open hK
  have e2 : cs.toList = [.int .i64 x.f0, .string x.f1, .int .i64 x.f2, .int .i64 x.f3, .slice A x.f4.length c] := by simpa [Value.cells] using e
  refine ⟨x.f0, x.f1, x.f2, x.f3, A, c, x.f4, by rw [← Array.toList_inj.1 (show cs.toList = (#[Value.int .i64 x.f0, .string x.f1, .int .i64 x.f2, .int .i64 x.f3, .slice A x.f4.length c] : Array Value).toList from e2)], ⟨hC, fun q hq => wf_range (hg.2.2.2.2 q hq).2.2.1, hle⟩, wf_range hg.1, hg.2.1⟩
theorem open_str (hv : Value.okWide Try.prog W r b 9 v) (h : DataW.Trod enc Try.prog W 0 sp held 9 v d p) : ∃ s : ByteArray, v = .string s ∧ s.size ≤ maxLen := by
  obtain ⟨s, rfl⟩ := okWide_string Try.underlying9 hv
  obtain ⟨fuel, hf⟩ := h
  obtain ⟨s', h, hx, hs⟩ := DataW.trod_string Try.underlying9 hf
  simp [Value.cells] at h
  subst h
  exact ⟨s, rfl, hs⟩
end
end Go.Proofs.Ytonbnlfijmapfaa
/- What came in, opened: rows of whatever elements; parts of a graph. No condition. -/
namespace Go.Proofs.Ytonbnlfijmapfaa
set_option linter.constructorNameAsVariable false
open Go.RowKit Go.ChangeShapes Go.WideShapes Go.Proofs.YtonbnlfijmapfaaW.PrintWords
set_option linter.unusedVariables false
set_option linter.unusedSimpArgs false

set_option maxRecDepth 100000
def gPrp (p : SPrp) : Prop := p.f0.size ≤ maxLen ∧ (Lit.int .i64 p.f1.f0).wf = true ∧ (Lit.int .i64 p.f1.f1).wf = true ∧ p.f1.f2.size ≤ maxLen
def gVert (v : SVert) : Prop := (Lit.int .i64 v.f0).wf = true ∧ v.f1.size ≤ maxLen ∧ ∀ p ∈ v.f2, gPrp p
def gEdg (v : SEdg) : Prop := (Lit.int .i64 v.f0).wf = true ∧ v.f1.size ≤ maxLen ∧ (Lit.int .i64 v.f2).wf = true ∧ (Lit.int .i64 v.f3).wf = true ∧ ∀ p ∈ v.f4, gPrp p
section
variable {H : Type} {enc : TypeId × Value → H} {W : World} {sp : Nat → Bool} {held : Bool} {r : Reach} {b : Nat} {v : Value} {d : DataW H} {p : List MemPlace}
theorem open_row {α : Type} [Inhabited α] {k : Kd α} {T e : TypeId} {g : α → Prop} (ht : Try.prog.underlying T = some (.slice e)) (hc : Try.prog.cellsOf e = k.sz) (ho : Opens k e g)
    (hv : Value.okWide Try.prog W r b T v) (h : DataW.Trod enc Try.prog W 0 sp held T v d p) : ∃ (A : Option Addr) (c : Nat) (l : List α), v = .slice A l.length c ∧ k.C W A l.length l ∧ l.length ≤ c ∧ ∀ x ∈ l, g x := by
  obtain ⟨a, n, c, rfl⟩ := okWide_slice ht hv
  obtain ⟨fuel, hf⟩ := h
  obtain ⟨l, ⟨A, c2, e2, hl, hC⟩, hg⟩ := opens_slice ht hc ho enc W sp held fuel _ _ hf
  have e3 : Value.slice a n c = .slice A l.length c2 := by simpa [Value.cells] using e2
  exact ⟨A, c2, l, e3, hC, hl, hg⟩
theorem open_ints (hv : Value.okWide Try.prog W r b 49 v) (h : DataW.Trod enc Try.prog W 0 sp held 49 v d p) : ∃ (A : Option Addr) (c : Nat) (l : List Int), v = .slice A l.length c ∧ (Kd.int .i64).C W A l.length l ∧ l.length ≤ c ∧ ∀ x ∈ l, (Lit.int .i64 x).wf = true :=
  open_row Try.underlying49 co_int (opens_int Try.underlying3) hv h
theorem open_props (hv : Value.okWide Try.prog W r b 22 v) (h : DataW.Trod enc Try.prog W 0 sp held 22 v d p) : ∃ (A : Option Addr) (c : Nat) (l : List SPrp), v = .slice A l.length c ∧ kPrp.C W A l.length l ∧ l.length ≤ c ∧ ∀ x ∈ l, gPrp x :=
  open_row Try.underlying22 co_Prp opens_Prp hv h
theorem open_verts (hv : Value.okWide Try.prog W r b 32 v) (h : DataW.Trod enc Try.prog W 0 sp held 32 v d p) : ∃ (A : Option Addr) (c : Nat) (l : List SVert), v = .slice A l.length c ∧ kVert.C W A l.length l ∧ l.length ≤ c ∧ ∀ x ∈ l, gVert x :=
  open_row Try.underlying32 co_Vert opens_Vert hv h
theorem open_edges (hv : Value.okWide Try.prog W r b 72 v) (h : DataW.Trod enc Try.prog W 0 sp held 72 v d p) : ∃ (A : Option Addr) (c : Nat) (l : List SEdg), v = .slice A l.length c ∧ kEdg.C W A l.length l ∧ l.length ≤ c ∧ ∀ x ∈ l, gEdg x :=
  open_row Try.underlying72 co_Edg opens_Edg hv h
end
end Go.Proofs.Ytonbnlfijmapfaa
/- cobweblaw16.props, GraphChecks. No condition. -/
namespace Go.Proofs.Ytonbnlfijmapfaa
open Go.RowKit Go.Shelf Go.Proofs.YtonbnlfijmapfaaW.PrintWords
set_option linter.unusedVariables false
set_option linter.unusedSimpArgs false

set_option maxHeartbeats 2000000 in
theorem law16_props_calls (A : Option Addr) (c : Nat) (l : List SPrp) (w : World) (h : kPrp.C w A l.length l) :
    Calls Try.prog 45 #[.slice A l.length c] w fun e w' => e = .returned (.bool (lawProps l)) ∧ w = w' := by
  have hm := Kd.C_max h
  have HX := Lib.hid h; clear h
  by_cases h30 : l.length ≤ 30
  · have hz : ¬ (30 : Int) < (l.length : Int) := by omega
    go_enter Try.func45, Try.ntmps45
    go_wp2
    go_loopw [3] (fun v3 wr => ∃ k : Nat, k ≤ l.length ∧ v3 = .int .i64 k ∧ wr = w ∧ Hid ((l.drop k).all small = l.all small)) (fun v3 _ => l.length - (intOf v3).toNat)
    case atStart => exact ⟨0, by omega, rfl, rfl, Lib.hid rfl⟩
    case round =>
      obtain ⟨k, hk, rfl, rfl, HT⟩ := hrel
      by_cases hlt : k < l.length
      · have hlt2 : (k : Int) < (l.length : Int) := by omega
        have HS := Lib.hid (drop_cons l k zPrp hlt)
        obtain ⟨ad, rfl, g0, g1, g2, g3⟩ := at_Prp HX.out (k : Int) (by omega) (by omega)
        simp only [Int.toNat_natCast, rd_Prp] at g0 g1 g2 g3
        cases hy : l.getD k zPrp with
        | mk y0 yv =>
        cases yv with
        | mk y1 y2 y3 =>
        rw [hy] at g0 g1 g2 g3 HS
        clear hy
        simp only at g0 g1 g2 g3
        by_cases h0 : y0.size ≤ 100
        · have e0 : ¬ (100 : Int) < (y0.size : Int) := by omega
          by_cases h1 : y3.size ≤ 300
          · have e1 : ¬ (300 : Int) < (y3.size : Int) := by omega
            go_wp2
            go_roundw
            case rel => exact ⟨k + 1, by omega, by go_num, by trivial, Lib.hid (by rw [← HT.out, HS.out]; simp [small, h0, h1])⟩
            case measure => simp [intOf]; omega
          · have e1 : (300 : Int) < (y3.size : Int) := by omega
            go_wp2
            go_ret
            exact ⟨ret_bool (by rw [lawProps, ← HT.out, HS.out]; simp [small, h1]), rfl⟩
        · have e0 : (100 : Int) < (y0.size : Int) := by omega
          go_wp2
          go_ret
          exact ⟨ret_bool (by rw [lawProps, ← HT.out, HS.out]; simp [small, h0]), rfl⟩
      · have hlt2 : ¬ (k : Int) < (l.length : Int) := by omega
        go_wp2
        go_ret
        refine ⟨ret_bool ?_, rfl⟩
        have := HT.out
        rw [List.drop_eq_nil_of_le (by omega)] at this
        rw [lawProps, ← this, decide_eq_true h30]; rfl
  · have hz : (30 : Int) < (l.length : Int) := by omega
    go_enter Try.func45, Try.ntmps45
    go_wp2
    go_ret
    exact ⟨ret_bool (by rw [lawProps, decide_eq_false h30]; rfl), rfl⟩


set_option maxRecDepth 100000 in
set_option maxHeartbeats 4000000 in
theorem law16_GraphChecks_calls (label : ByteArray) (A B : Option Addr) (c d : Nat) (ps : List SPrp) (ids : List Int) (w : World) (hp : kPrp.C w A ps.length ps) (hi : (Kd.int .i64).C w B ids.length ids) :
    Calls Try.prog 7 #[.string label, .slice A ps.length c, .slice B ids.length d] w fun e w' => e = .returned (.bool true) ∧ Below w.heap.size w w' := by
  have HP := Lib.hid hp; clear hp
  have HI := Lib.hid hi; clear hi
  have p1 : True := trivial
  have p2 : True := trivial
  by_cases h1 : label.size ≤ 500
  · have h1' : ¬ (500 : Int) < (label.size : Int) := by omega
    cases h2 : lawProps ps with
    | true =>
      have HF := Lib.hid (small_fits h2)
      by_cases h3 : ids.length ≤ 30
      · have h3' : ¬ (30 : Int) < (ids.length : Int) := by omega
        go_enter Try.func7, Try.ntmps7
        go_wp2_with (first
          | (go_at_call 44; refine (law16_awake_calls _).mono ?_; rintro e w1 ⟨rfl, hb⟩; have HB1 := Lib.hid hb; clear hb)
          | (go_at_call 45; refine (law16_props_calls A c ps _ (Kd.C_below HP.out HB1.out)).mono ?_; rw [h2]; rintro e w2 ⟨rfl, rfl⟩)
          | (go_at_call 46; refine (graph_Check_calls label A B c d ps ids _ (by omega) (Kd.C_below HP.out HB1.out) HF.out (Kd.C_below HI.out HB1.out)).mono ?_; rintro e w3 ⟨rfl, hb⟩; have HB3 := Lib.hid (keepB0 hb HB1.out); clear hb)
          | (go_at_call 36; refine (ref16_Check_calls label A B c d ps ids _ (by omega) (Kd.C_below HP.out HB3.out) HF.out (Kd.C_below HI.out HB3.out)).mono ?_; rintro e w4 ⟨rfl, hb⟩; have HB4 := Lib.hid (keepB0 hb HB3.out); clear hb))
        go_ret
        exact ⟨by simp, HB4.out⟩
      · have h3' : (30 : Int) < (ids.length : Int) := by omega
        go_enter Try.func7, Try.ntmps7
        go_wp2_with (first
          | (go_at_call 44; clear p1; refine (law16_awake_calls _).mono ?_; rintro e w1 ⟨rfl, hb⟩; have HB1 := Lib.hid hb; clear hb)
          | (go_at_call 45; refine (law16_props_calls A c ps _ (Kd.C_below HP.out HB1.out)).mono ?_; rw [h2]; rintro e w2 ⟨rfl, rfl⟩)
          | (go_at_call 44; clear p2; refine (law16_awake_calls _).mono ?_; rintro e w3 ⟨rfl, hb⟩; have HB3 := Lib.hid (keepB0 hb HB1.out); clear hb))
        go_ret
        exact ⟨rfl, HB3.out⟩
    | false =>
      go_enter Try.func7, Try.ntmps7
      go_wp2_with (first
        | (go_at_call 44; clear p1; refine (law16_awake_calls _).mono ?_; rintro e w1 ⟨rfl, hb⟩; have HB1 := Lib.hid hb; clear hb)
        | (go_at_call 45; refine (law16_props_calls A c ps _ (Kd.C_below HP.out HB1.out)).mono ?_; rw [h2]; rintro e w2 ⟨rfl, rfl⟩)
        | (go_at_call 44; clear p2; refine (law16_awake_calls _).mono ?_; rintro e w3 ⟨rfl, hb⟩; have HB3 := Lib.hid (keepB0 hb HB1.out); clear hb))
      go_ret
      exact ⟨rfl, HB3.out⟩
  · have h1' : (500 : Int) < (label.size : Int) := by omega
    go_enter Try.func7, Try.ntmps7
    go_wp2_with (first
      | (go_at_call 44; clear p1; refine (law16_awake_calls _).mono ?_; rintro e w1 ⟨rfl, hb⟩; have HB1 := Lib.hid hb; clear hb)
      | (go_at_call 44; clear p2; refine (law16_awake_calls _).mono ?_; rintro e w3 ⟨rfl, hb⟩; have HB3 := Lib.hid (keepB0 hb HB1.out); clear hb))
    go_ret
    exact ⟨rfl, HB3.out⟩
/-- For the row. -/
theorem law16_GraphChecks_row (label : ByteArray) (A : Option Addr) (c : Nat) (ps : List SPrp) (B : Option Addr) (d : Nat) (ids : List Int) (w : World) (hp : kPrp.C w A ps.length ps) (_ : ∀ x ∈ ps, gPrp x) (hi : (Kd.int .i64).C w B ids.length ids) (_ : ∀ x ∈ ids, (Lit.int .i64 x).wf = true) :
    Calls Try.prog 7 #[.string label, .slice A ps.length c, .slice B ids.length d] w fun e w' => e = .returned (.bool true) ∧ Below w.heap.size w w' := law16_GraphChecks_calls label A B c d ps ids w hp hi
end Go.Proofs.Ytonbnlfijmapfaa
/- Plain: things laid in whichever order. No condition. -/
namespace Go.Proofs.Ytonbnlfijmapfaa
open Go.RowKit Go.Shelf Go.Proofs.YtonbnlfijmapfaaW.PrintWords
set_option linter.unusedVariables false
set_option linter.unusedSimpArgs false

section
variable {α : Type} {key : α → Int}
theorem insK_comm {x y : α} (h : key x < key y) : ∀ l : List α, insK key x (insK key y l) = insK key y (insK key x l)
  | [] => by simp only [insK, if_pos h, if_neg (show ¬ key y < key x by omega)]
  | z :: r => by
    by_cases h1 : key x < key z
    · by_cases h2 : key y < key z
      · simp only [insK, if_pos h1, if_pos h2, if_pos h, if_neg (show ¬ key y < key x by omega)]
      · simp only [insK, if_pos h1, if_neg h2, if_neg (show ¬ key y < key x by omega)]
    · have h2 : ¬ key y < key z ∨ key y < key z := by omega
      rcases h2 with h2 | h2
      · simp only [insK, if_neg h1, if_neg h2]
        rw [insK_comm h r]
      · omega
theorem findK_ins {x : α} {n : Int} (hn : key x ≠ n) : ∀ l : List α, findK key (insK key x l) n = findK key l n
  | [] => by simp [insK, findK, hn]
  | z :: r => by
    have hf : (key x == n) = false := by simpa using hn
    simp only [insK]
    split
    · simp only [findK, List.find?_cons, hf]
    · simp only [findK, List.find?_cons]
      split
      · rfl
      · exact findK_ins hn r
theorem findK_ins_self {x : α} : ∀ l : List α, (findK key (insK key x l) (key x)).isSome = true
  | [] => by simp [insK, findK]
  | z :: r => by
    simp only [insK]
    split
    · simp [findK]
    · simp only [findK, List.find?_cons]
      split
      · rfl
      · exact findK_ins_self r
theorem insK_comm' {x y : α} (h : key x ≠ key y) (l : List α) : insK key x (insK key y l) = insK key y (insK key x l) := by
  rcases Int.lt_or_gt_of_ne h with h1 | h1
  · exact insK_comm h1 l
  · exact (insK_comm h1 l).symm
end
theorem addV_comm (s : List SVert) {x y : SVert} (h : x.f0 ≠ y.f0) : (addV (addV s x).1 y).1 = (addV (addV s y).1 x).1 := by
  have hx : ∀ l, findK SVert.f0 (insK SVert.f0 x l) y.f0 = findK SVert.f0 l y.f0 := fun l => findK_ins h l
  have hy : ∀ l, findK SVert.f0 (insK SVert.f0 y l) x.f0 = findK SVert.f0 l x.f0 := fun l => findK_ins (Ne.symm h) l
  unfold addV
  by_cases cx : checkN x.f1 x.f2 [x.f0] = 0 <;> by_cases cy : checkN y.f1 y.f2 [y.f0] = 0 <;> simp only [cx, cy, if_true, if_false] <;>
    by_cases fx : (findK SVert.f0 s x.f0).isSome = true <;> by_cases fy : (findK SVert.f0 s y.f0).isSome = true <;> simp only [hx, hy, fx, fy, if_true, if_false, Bool.false_eq_true]
  exact insK_comm' (Ne.symm h) s
theorem addE_comm (vs : List SVert) (s : List SEdg) {x y : SEdg} (h : x.f0 ≠ y.f0) : (addE vs (addE vs s x).1 y).1 = (addE vs (addE vs s y).1 x).1 := by
  have hx : ∀ l, findK SEdg.f0 (insK SEdg.f0 x l) y.f0 = findK SEdg.f0 l y.f0 := fun l => findK_ins h l
  have hy : ∀ l, findK SEdg.f0 (insK SEdg.f0 y l) x.f0 = findK SEdg.f0 l x.f0 := fun l => findK_ins (Ne.symm h) l
  unfold addE
  by_cases cx : checkN x.f1 x.f4 [x.f0, x.f2, x.f3] = 0 <;> by_cases cy : checkN y.f1 y.f4 [y.f0, y.f2, y.f3] = 0 <;> simp only [cx, cy, if_true, if_false] <;>
    by_cases fx : (findK SEdg.f0 s x.f0).isSome = true <;> by_cases fy : (findK SEdg.f0 s y.f0).isSome = true <;> simp only [hx, hy, fx, fy, if_true, if_false, Bool.false_eq_true] <;>
    by_cases ex : (findK SVert.f0 vs x.f2).isSome = true ∧ (findK SVert.f0 vs x.f3).isSome = true <;> by_cases ey : (findK SVert.f0 vs y.f2).isSome = true ∧ (findK SVert.f0 vs y.f3).isSome = true <;> simp only [hx, hy, fx, fy, ex, ey, if_true, if_false, and_self, Bool.false_eq_true]
  exact insK_comm' (Ne.symm h) s
def layV (s : List SVert) (l : List SVert) : List SVert := l.foldl (fun s x => (addV s x).1) s
def layE (vs : List SVert) (s : List SEdg) (l : List SEdg) : List SEdg := l.foldl (fun s x => (addE vs s x).1) s
theorem layV_perm {l m : List SVert} (h : l.Perm m) (hd : l.Pairwise fun a b => a.f0 ≠ b.f0) (s : List SVert) : layV s l = layV s m := by
  refine h.foldl_eq' (fun x hx y hy z => ?_) s
  by_cases e : x.f0 = y.f0
  · have : x = y := by
      clear h
      induction l with
      | nil => simp at hx
      | cons a r ih =>
        obtain ⟨h1, h2⟩ := List.pairwise_cons.1 hd
        rcases List.mem_cons.1 hx with rfl | hx' <;> rcases List.mem_cons.1 hy with rfl | hy'
        · rfl
        · exact absurd e (h1 _ hy')
        · exact absurd e.symm (h1 _ hx')
        · exact ih h2 hx' hy'
    rw [this]
  · exact addV_comm z e
theorem layE_perm (vs : List SVert) {l m : List SEdg} (h : l.Perm m) (hd : l.Pairwise fun a b => a.f0 ≠ b.f0) (s : List SEdg) : layE vs s l = layE vs s m := by
  refine h.foldl_eq' (fun x hx y hy z => ?_) s
  by_cases e : x.f0 = y.f0
  · have : x = y := by
      clear h
      induction l with
      | nil => simp at hx
      | cons a r ih =>
        obtain ⟨h1, h2⟩ := List.pairwise_cons.1 hd
        rcases List.mem_cons.1 hx with rfl | hx' <;> rcases List.mem_cons.1 hy with rfl | hy'
        · rfl
        · exact absurd e (h1 _ hy')
        · exact absurd e.symm (h1 _ hx')
        · exact ih h2 hx' hy'
    rw [this]
  · exact addE_comm vs z e
/-- What is laid is right. -/
theorem mem_insK {α : Type} {key : α → Int} {x y : α} : ∀ {l : List α}, y ∈ insK key x l ↔ y = x ∨ y ∈ l
  | [] => by simp [insK]
  | z :: r => by
    rw [insK]
    split
    · simp
    · simp only [List.mem_cons, mem_insK (l := r)]
      constructor
      · rintro (h | h | h) <;> simp [h]
      · rintro (h | h | h) <;> simp [h]
theorem insK_length {α : Type} {key : α → Int} {x : α} : ∀ l : List α, (insK key x l).length = l.length + 1
  | [] => rfl
  | z :: r => by
    rw [insK]
    split
    · rfl
    · rw [List.length_cons, insK_length r, List.length_cons]
/-- The list from its k-th on, then its beginning; from behind. -/
theorem turned_perm {α : Type} (l : List α) (k : Nat) : (l.drop k ++ l.take k).reverse.Perm l :=
  (List.reverse_perm _).trans ((List.perm_append_comm).trans (by rw [List.take_append_drop]))
end Go.Proofs.Ytonbnlfijmapfaa
/- Plain: what is laid is right; lists turned about. No condition. -/
namespace Go.Proofs.Ytonbnlfijmapfaa
open Go.RowKit Go.Shelf Go.Proofs.YtonbnlfijmapfaaW.PrintWords
set_option linter.unusedVariables false
set_option linter.unusedSimpArgs false

theorem okV_addV {s : List SVert} (h : okV s) (x : SVert) : okV (addV s x).1 := by
  unfold addV
  split
  · rename_i hc
    split
    · exact h
    · intro y hy
      rcases mem_insK.1 hy with rfl | hy
      · exact hc
      · exact h y hy
  · exact h
theorem okE_addE {vs : List SVert} {s : List SEdg} (h : okE s) (x : SEdg) : okE (addE vs s x).1 := by
  unfold addE
  split
  · rename_i hc
    split
    · exact h
    · split
      · intro y hy
        rcases mem_insK.1 hy with rfl | hy
        · exact hc
        · exact h y hy
      · exact h
  · exact h
theorem addV_length (s : List SVert) (x : SVert) : (addV s x).1.length ≤ s.length + 1 := by
  unfold addV
  split
  · split
    · simp
    · simp [insK_length]
  · simp
theorem addE_length (vs : List SVert) (s : List SEdg) (x : SEdg) : (addE vs s x).1.length ≤ s.length + 1 := by
  unfold addE
  split
  · split
    · simp
    · split
      · simp [insK_length]
      · simp
  · simp
theorem layV_snoc (s l : List SVert) (x : SVert) : layV s (l ++ [x]) = (addV (layV s l) x).1 := by simp [layV]
theorem layE_snoc (vs : List SVert) (s l : List SEdg) (x : SEdg) : layE vs s (l ++ [x]) = (addE vs (layE vs s l) x).1 := by simp [layE]
theorem okV_lay : ∀ (l : List SVert) {s : List SVert}, okV s → okV (layV s l)
  | [], _, h => h
  | x :: l, _, h => okV_lay l (okV_addV h x)
theorem okE_lay (vs : List SVert) : ∀ (l : List SEdg) {s : List SEdg}, okE s → okE (layE vs s l)
  | [], _, h => h
  | x :: l, _, h => okE_lay vs l (okE_addE h x)
theorem layV_length : ∀ (l s : List SVert), (layV s l).length ≤ s.length + l.length
  | [], s => by simp [layV]
  | x :: l, s => by
    have h1 := layV_length l (addV s x).1
    have h2 := addV_length s x
    simp only [layV, List.foldl_cons, List.length_cons] at h1 ⊢
    omega
theorem layE_length (vs : List SVert) : ∀ (l s : List SEdg), (layE vs s l).length ≤ s.length + l.length
  | [], s => by simp [layE]
  | x :: l, s => by
    have h1 := layE_length vs l (addE vs s x).1
    have h2 := addE_length vs s x
    simp only [layE, List.foldl_cons, List.length_cons] at h1 ⊢
    omega
theorem okV_nil : okV [] := fun x hx => by simp at hx
theorem okE_nil : okE [] := fun x hx => by simp at hx
/-- From behind, turned by t. -/
def turned {α : Type} (l : List α) (t : Nat) : List α := (l.drop t ++ l.take t).reverse
theorem turned_length {α : Type} (l : List α) (t : Nat) : (turned l t).length = l.length := by simp [turned]; omega
theorem turned_at {α : Type} (l : List α) (t j : Nat) (z : α) (ht : t < l.length) (hj : j < l.length) : (turned l t).getD j z = l.getD ((l.length - 1 - j + t) % l.length) z := by
  have hl : (l.drop t ++ l.take t).length = l.length := by simp; omega
  simp only [turned, List.getD_eq_getElem?_getD]
  congr 1
  rw [List.getElem?_reverse (by rw [hl]; exact hj), hl]
  by_cases h : l.length - 1 - j < l.length - t
  · rw [List.getElem?_append_left (by rw [List.length_drop]; exact h), List.getElem?_drop, Nat.mod_eq_of_lt (by omega), Nat.add_comm]
  · rw [List.getElem?_append_right (by rw [List.length_drop]; omega), List.length_drop, List.getElem?_take, if_pos (by omega)]
    congr 1
    have : l.length - 1 - j + t = (l.length - 1 - j - (l.length - t)) + l.length := by omega
    rw [this, Nat.add_mod_right, Nat.mod_eq_of_lt (by omega)]
theorem pairwise_more {α : Type} {R : α → α → Prop} {l : List α} {x : α} (h : l.Pairwise R) (hx : ∀ a ∈ l, R a x) : (l ++ [x]).Pairwise R :=
  List.pairwise_append.2 ⟨h, by simp, fun a ha b hb => by rw [List.mem_singleton] at hb; subst hb; exact hx a ha⟩
/-- How far lists are turned. -/
def turnN (turn : Int) (n : Nat) : Nat := ((turn.tmod n + n).tmod n).toNat
theorem turn_facts (turn : Int) (n : Nat) (h : 0 < n) : -(n : Int) < turn.tmod n ∧ turn.tmod n < n := by
  have h1 := Int.natAbs_tmod turn n
  have h2 : turn.natAbs % (n : Int).natAbs < n := by simpa using Nat.mod_lt _ h
  omega
theorem turnN_eq (turn : Int) (n : Nat) (h : 0 < n) : (turn.tmod n + n).tmod n = (turnN turn n : Int) ∧ turnN turn n < n := by
  obtain ⟨h1, h2⟩ := turn_facts turn n h
  have h3 : (turn.tmod n + n).tmod n = (turn.tmod n + n) % n := Int.tmod_eq_emod_of_nonneg (by omega)
  have h4 := Int.emod_nonneg (turn.tmod n + n) (show (n : Int) ≠ 0 by omega)
  have h5 := Int.emod_lt_of_pos (turn.tmod n + n) (show (0 : Int) < n by omega)
  unfold turnN
  omega
theorem wrap64_in {n : Int} (h0 : -9223372036854775808 ≤ n) (h1 : n < 9223372036854775808) : wrap64 n = n := by unfold wrap64; omega
theorem step_eq (i t n : Nat) (h : 0 < n) : ((i : Int) + t).tmod n = ((i + t) % n : Nat) := by
  rw [Int.tmod_eq_emod_of_nonneg (by omega)]
  simp
theorem turn_step (turn : Int) (n m j : Nat) (hn : n ≤ 1000) (hj : j < n) (hm : (m : Int) = (n : Int) - 1 - j) :
    wrap64 (turn.tmod n + n) = turn.tmod n + n ∧ wrap64 ((m : Int) + (turn.tmod n + n).tmod n) = (m : Int) + (turn.tmod n + n).tmod n ∧ ((m : Int) + (turn.tmod n + n).tmod n).tmod n = ((m + turnN turn n) % n : Nat) ∧ (m + turnN turn n) % n < n ∧ turnN turn n < n ∧ n - 1 - j = m := by
  obtain ⟨t1, t2⟩ := turnN_eq turn n (by omega)
  obtain ⟨t3, t4⟩ := turn_facts turn n (by omega)
  have h5 := step_eq m (turnN turn n) n (by omega)
  have h6 := Nat.mod_lt (m + turnN turn n) (show 0 < n by omega)
  rw [t1]
  refine ⟨wrap64_in ?_ ?_, wrap64_in ?_ ?_, h5, h6, t2, ?_⟩
  · generalize turn.tmod (n : Int) = z at t3 t4; omega
  · generalize turn.tmod (n : Int) = z at t3 t4; omega
  · clear t1 t3 t4 h5 h6; omega
  · clear t1 t3 t4 h5 h6; omega
  · clear t1 t3 t4 h5 h6; omega
end Go.Proofs.Ytonbnlfijmapfaa
/- cobwebref16.SameE. -/
namespace Go.Proofs.Ytonbnlfijmapfaa
open Go.RowKit Go.Shelf Go.Proofs.YtonbnlfijmapfaaW.PrintWords
set_option linter.unusedVariables false
set_option linter.unusedSimpArgs false

set_option maxRecDepth 100000 in
set_option maxHeartbeats 4000000 in
theorem ref16_SameE_calls (A B : Option Addr) (c d : Nat) (a b : List SEdg) (w : World) (ha : kEdg.C w A a.length a) (hb : kEdg.C w B b.length b) :
    Calls Try.prog 40 #[.slice A a.length c, .slice B b.length d] w fun e w' => e = .returned (.bool (decide (a = b))) ∧ Quiet w w' := by
  have hm := Kd.C_max ha
  have HX := Lib.hid ha; clear ha
  have HY := Lib.hid hb; clear hb
  go_enter Try.func40, Try.ntmps40
  by_cases hl : a.length = b.length
  · have hl2 : ((a.length : Int) = (b.length : Int)) := by omega
    go_wp2
    go_loopw [5] (fun v5 wr => ∃ (k : Nat), k ≤ a.length ∧ v5 = .int .i64 k ∧ Hid (Quiet w wr) ∧ Hid (a.take k = b.take k)) (fun v5 _ => a.length - (intOf v5).toNat)
    case atStart => exact ⟨0, by omega, rfl, Lib.hid (quiet_refl _), Lib.hid rfl⟩
    case round =>
      obtain ⟨k, hk, rfl, HB, HT⟩ := hrel
      by_cases hlt : k < a.length
      · have hlt2 : (k : Int) < (a.length : Int) := by omega
        have hlt3 : (k : Int) < (b.length : Int) := by omega
        obtain ⟨ad, A2, c2, rfl, g0, g1, g2, g3, g4, _, hA⟩ := at_Edg (Kd.C_below HX.out (quiet_below HB.out _)) (k : Int) (by omega) (by omega)
        obtain ⟨bd, B2, d2, rfl, f0, f1, f2, f3, f4, _, hB⟩ := at_Edg (Kd.C_below HY.out (quiet_below HB.out _)) (k : Int) (by omega) (by omega)
        simp only [Int.toNat_natCast, rd_Edg] at g0 g1 g2 g3 g4 f0 f1 f2 f3 f4 hA hB
        have HE := Lib.hid (fun e => take_step a b k zEdg hlt (by omega) HT.out e)
        have HN := Lib.hid (fun e => take_unlike (a := a) (b := b) (k := k) (z := zEdg) e)
        cases hy : a.getD k zEdg with
        | mk y0 y1 y2 y3 y4 =>
        cases hx : b.getD k zEdg with
        | mk x0 x1 x2 x3 x4 =>
        rw [hy] at g0 g1 g2 g3 g4 hA HE HN
        rw [hx] at f0 f1 f2 f3 f4 hB HE HN
        clear hx hy
        simp only at g0 g1 g2 g3 g4 f0 f1 f2 f3 f4 hA hB
        by_cases h0 : y0 = x0
        · subst h0
          by_cases h1 : y1 = x1
          · subst h1
            by_cases h2 : y2 = x2
            · subst h2
              by_cases h3 : y3 = x3
              · subst h3
                have q := fun w2 hb => ref03_Same_calls A2 B2 c2 d2 y4 x4 w2 (Kd.C_below hA hb) (Kd.C_below hB hb)
                have HQ := Lib.hid q; clear q
                cases h4 : decide (y4 = x4) with
                | true =>
                  rw [h4] at HQ
                  go_wp2_with fail
                  go_big_quiet ((go_at_call 70; exact Calls.quiet_of (HQ.out _ (pw_below_drewN (Below.refl _ _) _))))
                  go_wp2
                  go_roundw
                  case rel => exact ⟨k + 1, by omega, by go_num, Lib.hid (quiet_step HB.out _), Lib.hid (HE.out (by rw [of_decide_eq_true h4]))⟩
                  case measure => simp [intOf]; omega
                | false =>
                  rw [h4] at HQ
                  go_wp2_with fail
                  go_big_quiet ((go_at_call 70; exact Calls.quiet_of (HQ.out _ (pw_below_drewN (Below.refl _ _) _))))
                  go_wp2
                  go_ret
                  exact ⟨ret_bool (Eq.symm (decide_eq_false (HN.out (by simp [of_decide_eq_false h4])))), quiet_step HB.out _⟩
              · have h3' : (y3 != x3) = true := by simp [h3]
                go_wp2_with fail
                go_big_quiet (fail)
                go_wp2
                go_ret
                exact ⟨ret_bool (Eq.symm (decide_eq_false (HN.out (by simp [h3])))), quiet_step HB.out _⟩
            · have h2' : (y2 != x2) = true := by simp [h2]
              go_wp2_with fail
              go_big_quiet (fail)
              go_wp2
              go_ret
              exact ⟨ret_bool (Eq.symm (decide_eq_false (HN.out (by simp [h2])))), quiet_step HB.out _⟩
          · have h1' : (y1.toList == x1.toList) = false := by rw [toList_eq]; exact decide_eq_false h1
            go_wp2_with fail
            go_big_quiet (fail)
            go_wp2
            go_ret
            exact ⟨ret_bool (Eq.symm (decide_eq_false (HN.out (by simp [h1])))), quiet_step HB.out _⟩
        · have h0' : (y0 != x0) = true := by simp [h0]
          go_wp2_with fail
          go_big_quiet (fail)
          go_wp2
          go_ret
          exact ⟨ret_bool (Eq.symm (decide_eq_false (HN.out (by simp [h0])))), quiet_step HB.out _⟩
      · have hlt2 : ¬ (k : Int) < (b.length : Int) := by omega
        go_wp2
        go_ret
        refine ⟨ret_bool (Eq.symm (decide_eq_true ?_)), HB.out⟩
        have := HT.out
        rwa [List.take_of_length_le (by omega), List.take_of_length_le (by omega)] at this
  · have hl2 : ¬ ((a.length : Int) = (b.length : Int)) := by omega
    go_wp2
    go_ret
    exact ⟨ret_bool (Eq.symm (decide_eq_false (fun h => hl (by rw [h])))), quiet_refl _⟩
end Go.Proofs.Ytonbnlfijmapfaa
/- cobweblaw16.GraphOrders. No condition. -/
namespace Go.Proofs.Ytonbnlfijmapfaa
open Go.RowKit Go.Shelf Go.Proofs.YtonbnlfijmapfaaW.PrintWords
set_option linter.unusedVariables false
set_option linter.unusedSimpArgs false

section
variable {W W' : World} {B g m1 m2 : Nat} {vs : List SVert} {es : List SEdg}
/-- A graph beside another's map that turns. -/
theorem GraphAt.beside (h : GraphAt W B g m1 m2 vs es) {m : Nat} (hb : But (fun k => k = m) W W') (hm : m < B) (hn : NoCells W m) : GraphAt W' B g m1 m2 vs es :=
  h.but hb (fun k hk => by rw [hk]; exact hn) (fun e => by have := h.low.2.1; omega) (fun e => by have := h.low.2.2; omega)
theorem GraphAt.beside' (h : GraphAt W B g m1 m2 vs es) {m C : Nat} (hb : But (fun k => k = m) W W') (hl : m1 < C ∧ m2 < C) (hm : C ≤ m) (hn : NoCells W m) : GraphAt W' B g m1 m2 vs es :=
  h.but hb (fun k hk => by rw [hk]; exact hn) (fun e => by omega) (fun e => by omega)
end
set_option maxRecDepth 100000 in
set_option maxHeartbeats 32000000 in
theorem law16_GraphOrders_calls (A : Option Addr) (c : Nat) (vs : List SVert) (B : Option Addr) (d : Nat) (es : List SEdg) (turn : Int) (w : World) (hv : kVert.C w A vs.length vs) (he : kEdg.C w B es.length es) (ht : -9223372036854775808 ≤ turn ∧ turn ≤ 9223372036854775807) :
    Calls Try.prog 8 #[.slice A vs.length c, .slice B es.length d, .int .i64 turn] w fun e w' => e = .returned (.bool true) ∧ Below w.heap.size w w' := by
  have HV := Lib.hid hv; clear hv
  have HE := Lib.hid he; clear he
  have p1 : True := trivial
  have p2 : True := trivial
  have p3 : True := trivial
  by_cases h1 : vs.length ≤ 15
  · have h1' : ¬ (15 : Int) < (vs.length : Int) := by omega
    by_cases h2 : es.length ≤ 15
    · have h2' : ¬ (15 : Int) < (es.length : Int) := by omega
      go_enter Try.func8, Try.ntmps8
      go_wp2_with (first
        | (go_at_call 44; clear p1; refine (law16_awake_calls _).mono ?_; rintro e w1 ⟨rfl, hb⟩; have HB1 := Lib.hid hb; clear hb)
        | (go_at_call 47; clear p2; refine (graph_New_calls _).mono ?_; rintro e w2 ⟨ga, ma, mb, rfl, hG, hb⟩; have HGa0 := Lib.hid (hG.lower HB1.out.size); have HB2 := Lib.hid (keepB0 hb HB1.out); clear hG hb)
        | (go_at_call 47; refine (graph_New_calls _).mono ?_; rintro e w3 ⟨gb, na, nb, rfl, hG, hb⟩; have HGb0 := Lib.hid hG; have HGa1 := Lib.hid (HGa0.out.below hb); have HB3 := Lib.hid (keepB0 hb HB2.out); clear hG hb))
      have HLT : Hid (ma < w2.heap.size ∧ mb < w2.heap.size) := Lib.hid (by obtain ⟨V, h1, -⟩ := HGa0.out.vm; obtain ⟨E, h2, -⟩ := HGa0.out.em; exact ⟨h1.lt, h2.lt⟩)
      have hD := HB2.out.size
      generalize w2.heap.size = D at HGb0 HLT hD
      go_loopw [9] (fun v9 wr => ∃ i : Nat, i ≤ vs.length ∧ v9 = .int .i64 i ∧ Hid (GraphAt wr w.heap.size ga ma mb (layV [] (vs.take i)) []) ∧ Hid (GraphAt wr D gb na nb [] []) ∧ Hid (Below w.heap.size w wr) ∧ Hid (((vs.take i).Pairwise fun a b => a.f0 ≠ b.f0) ∧ ∀ a ∈ vs.take i, lawProps a.f2 = true ∧ a.f1.size ≤ 200)) (fun v9 _ => vs.length - (intOf v9).toNat)
      case atStart => exact ⟨0, by omega, rfl, HGa1, HGb0, HB3, Lib.hid (by simp)⟩
      case round =>
        obtain ⟨i, hi, rfl, HGa, HGb, HB, HD⟩ := hrel
        by_cases hlt : i < vs.length
        · have hlt2 : (i : Int) < (vs.length : Int) := by omega
          obtain ⟨ad, A2, c2, rfl, g0, g1, g2, hle, hA⟩ := at_Vert (Kd.C_below HV.out HB.out) (i : Int) (by omega) (by omega)
          simp only [Int.toNat_natCast, rd_Vert] at g0 g1 g2 hA
          have HT := Lib.hid (take_more vs i zVert hlt)
          obtain ⟨⟨x0, x1, x2⟩, hx⟩ : ∃ q, vs.getD i zVert = q := ⟨_, rfl⟩
          rw [hx] at g0 g1 g2 hA HT
          clear hx hle
          simp only at g0 g1 g2 hA
          cases hp : lawProps x2 with
          | false =>
            go_wp2_with (go_at_call 45; refine (law16_props_calls A2 c2 x2 _ (Kd.C_below hA (Below.refl _ _))).mono ?_; rw [hp]; rintro e w6 ⟨rfl, rfl⟩)
            go_ret
            exact ⟨rfl, HB.out⟩
          | true =>
          by_cases hs : x1.size ≤ 200
          · have hs' : ¬ (200 : Int) < (x1.size : Int) := by omega
            go_wp2_with (go_at_call 45; refine (law16_props_calls A2 c2 x2 _ (Kd.C_below hA (Below.refl _ _))).mono ?_; rw [hp]; rintro e w6 ⟨rfl, rfl⟩)
            go_loopw [10] (fun v10 wr2 => ∃ k : Nat, k ≤ i ∧ v10 = .int .i64 k ∧ Hid (Quiet wr wr2) ∧ Hid (∀ a ∈ vs.take k, a.f0 ≠ x0)) (fun v10 _ => i - (intOf v10).toNat)
            case atStart => exact ⟨0, by omega, rfl, Lib.hid (quiet_refl _), Lib.hid (by simp)⟩
            case round =>
              obtain ⟨k, hk, rfl, HQ, HN⟩ := hrel
              have g0 := pw_cell_below (quiet_below HQ.out _) g0
              have g1 := pw_cell_below (quiet_below HQ.out _) g1
              have g2 := pw_cell_below (quiet_below HQ.out _) g2
              by_cases hlk : k < i
              · have hlk2 : (k : Int) < (i : Int) := by omega
                have hlk3 : (k : Int) < (vs.length : Int) := by omega
                obtain ⟨ad', A3, c3, e0, f0, -⟩ := at_Vert (Kd.C_below HV.out (HB.out.trans (quiet_below HQ.out _))) (k : Int) (by omega) (by omega)
                cases e0
                simp only [Int.toNat_natCast, rd_Vert] at f0
                have HT2 := Lib.hid (take_more vs k zVert (by omega))
                generalize vs.getD k zVert = y at f0 HT2
                by_cases hxy : y.f0 = x0
                · rw [hxy] at f0
                  go_wp2_with fail
                  go_big_quiet (fail)
                  go_wp2
                  go_ret
                  exact ⟨rfl, (HB.out.trans (quiet_below HQ.out _)).trans (pw_below_drewN (Below.refl _ _) _)⟩
                · have HN2 : Hid (∀ a ∈ vs.take (k + 1), a.f0 ≠ x0) := Lib.hid (by
                    rw [HT2.out]
                    intro a ha
                    rcases List.mem_append.1 ha with ha | ha
                    · exact HN.out a ha
                    · rw [List.mem_singleton] at ha; rw [ha]; exact hxy)
                  have hne : (y.f0 == x0) = false := by simpa using hxy
                  generalize y.f0 = y0 at f0 hne
                  go_wp2_with fail
                  go_big_quiet (fail)
                  go_wp2
                  go_roundw
                  case rel => exact ⟨k + 1, by omega, by go_num, Lib.hid (quiet_step HQ.out _), HN2⟩
                  case measure => simp [intOf]; omega
              · have hlk2 : ¬ (k : Int) < (i : Int) := by omega
                have HN3 : Hid (∀ a ∈ vs.take i, a.f0 ≠ x0) := Lib.hid (by have := HN.out; rwa [show k = i by omega] at this)
                have HBq := Lib.hid (show Below w.heap.size w wr from HB.out.trans (quiet_below HQ.out _))
                have HGaq := Lib.hid (HGa.out.below (quiet_below HQ.out _))
                have HGbq := Lib.hid (HGb.out.below (quiet_below HQ.out _))
                go_wp2_with (go_at_call 48; refine (graph_AddVertex_calls w.heap.size ga ma mb _ [] x0 x1 A2 c2 x2 _ HGaq.out (Kd.C_below hA (quiet_below HQ.out _)) (small_fits hp) (by omega) ?hl).mono ?_; (case hl => have := layV_length (vs.take i) []; rw [List.length_take] at this; simp at this; omega); rintro e w5 ⟨rfl, hG, hb⟩; have HG5 := Lib.hid hG; have HB5 := Lib.hid (hb.keep HBq.out (fun k hk => by rw [hk]; exact HGaq.out.low.2.1) (Nat.le_refl _)); have HGb5 := Lib.hid (HGbq.out.beside hb HLT.out.1 HGaq.out.vm.noCells); clear hG hb)
                go_roundw
                case rel => exact ⟨i + 1, by omega, by go_num, Lib.hid (by rw [HT.out, layV_snoc]; exact HG5.out), HGb5, HB5, Lib.hid (by rw [HT.out]; exact ⟨pairwise_more HD.out.1 HN3.out, fun a ha => by
                  rcases List.mem_append.1 ha with ha | ha
                  · exact HD.out.2 a ha
                  · rw [List.mem_singleton] at ha; rw [ha]; exact ⟨hp, hs⟩⟩)⟩
                case measure => simp [intOf]; omega
          · have hs' : (200 : Int) < (x1.size : Int) := by omega
            go_wp2_with (go_at_call 45; refine (law16_props_calls A2 c2 x2 _ (Kd.C_below hA (Below.refl _ _))).mono ?_; rw [hp]; rintro e w6 ⟨rfl, rfl⟩)
            go_ret
            exact ⟨rfl, HB.out⟩
        · have hlt2 : ¬ (i : Int) < (vs.length : Int) := by omega
          have HGa2 := Lib.hid (show GraphAt wr w.heap.size ga ma mb (layV [] vs) [] from by have := HGa.out; rwa [List.take_of_length_le (by omega)] at this)
          have HDv := Lib.hid (show vs.Pairwise (fun a b => a.f0 ≠ b.f0) from by have := HD.out.1; rwa [List.take_of_length_le (by omega)] at this)
          have HSv := Lib.hid (show ∀ a ∈ vs, lawProps a.f2 = true ∧ a.f1.size ≤ 200 from by have := HD.out.2; rwa [List.take_of_length_le (by omega)] at this)
          have hVl : (layV [] vs).length ≤ 15 := by have := layV_length vs []; simp at this; omega
          have HokV := Lib.hid (okV_lay vs okV_nil)
          have HVP := Lib.hid (fun (l : List SVert) (hp : vs.Perm l) => layV_perm hp HDv.out [])
          have HGb2 := HGb
          have HB4 := HB
          clear HGa HGb HB HD
          generalize layV [] vs = VS at HGa2 hVl HokV HVP
          go_wp2
          go_loopw [11] (fun v11 wr => ∃ i : Nat, i ≤ es.length ∧ v11 = .int .i64 i ∧ Hid (GraphAt wr w.heap.size ga ma mb VS (layE VS [] (es.take i))) ∧ Hid (GraphAt wr D gb na nb [] []) ∧ Hid (Below w.heap.size w wr) ∧ Hid (((es.take i).Pairwise fun a b => a.f0 ≠ b.f0) ∧ ∀ a ∈ es.take i, lawProps a.f4 = true ∧ a.f1.size ≤ 200)) (fun v11 _ => es.length - (intOf v11).toNat)
          case atStart => exact ⟨0, by omega, rfl, HGa2, HGb2, HB4, Lib.hid (by simp)⟩
          case round =>
            obtain ⟨i, hi, rfl, HGa, HGb, HB, HD⟩ := hrel
            by_cases hlt : i < es.length
            · have hlt2 : (i : Int) < (es.length : Int) := by omega
              obtain ⟨ad, A2, c2, rfl, g0, g1, g2, g3, g4, hle, hA⟩ := at_Edg (Kd.C_below HE.out HB.out) (i : Int) (by omega) (by omega)
              simp only [Int.toNat_natCast, rd_Edg] at g0 g1 g2 g3 g4 hA
              have HT := Lib.hid (take_more es i zEdg hlt)
              obtain ⟨⟨x0, x1, x2, x3, x4⟩, hx⟩ : ∃ q, es.getD i zEdg = q := ⟨_, rfl⟩
              rw [hx] at g0 g1 g2 g3 g4 hA HT
              clear hx hle
              simp only at g0 g1 g2 g3 g4 hA
              cases hp : lawProps x4 with
              | false =>
                go_wp2_with (go_at_call 45; refine (law16_props_calls A2 c2 x4 _ (Kd.C_below hA (Below.refl _ _))).mono ?_; rw [hp]; rintro e w6 ⟨rfl, rfl⟩)
                go_ret
                exact ⟨rfl, HB.out⟩
              | true =>
              by_cases hs : x1.size ≤ 200
              · have hs' : ¬ (200 : Int) < (x1.size : Int) := by omega
                go_wp2_with (go_at_call 45; refine (law16_props_calls A2 c2 x4 _ (Kd.C_below hA (Below.refl _ _))).mono ?_; rw [hp]; rintro e w6 ⟨rfl, rfl⟩)
                go_loopw [12] (fun v12 wr2 => ∃ k : Nat, k ≤ i ∧ v12 = .int .i64 k ∧ Hid (Quiet wr wr2) ∧ Hid (∀ a ∈ es.take k, a.f0 ≠ x0)) (fun v12 _ => i - (intOf v12).toNat)
                case atStart => exact ⟨0, by omega, rfl, Lib.hid (quiet_refl _), Lib.hid (by simp)⟩
                case round =>
                  obtain ⟨k, hk, rfl, HQ, HN⟩ := hrel
                  have g0 := pw_cell_below (quiet_below HQ.out _) g0
                  have g1 := pw_cell_below (quiet_below HQ.out _) g1
                  have g2 := pw_cell_below (quiet_below HQ.out _) g2
                  have g3 := pw_cell_below (quiet_below HQ.out _) g3
                  have g4 := pw_cell_below (quiet_below HQ.out _) g4
                  by_cases hlk : k < i
                  · have hlk2 : (k : Int) < (i : Int) := by omega
                    have hlk3 : (k : Int) < (es.length : Int) := by omega
                    obtain ⟨ad', A3, c3, e0, f0, -⟩ := at_Edg (Kd.C_below HE.out (HB.out.trans (quiet_below HQ.out _))) (k : Int) (by omega) (by omega)
                    cases e0
                    simp only [Int.toNat_natCast, rd_Edg] at f0
                    have HT2 := Lib.hid (take_more es k zEdg (by omega))
                    generalize es.getD k zEdg = y at f0 HT2
                    by_cases hxy : y.f0 = x0
                    · rw [hxy] at f0
                      go_wp2_with fail
                      go_big_quiet (fail)
                      go_wp2
                      go_ret
                      exact ⟨rfl, (HB.out.trans (quiet_below HQ.out _)).trans (pw_below_drewN (Below.refl _ _) _)⟩
                    · have HN2 : Hid (∀ a ∈ es.take (k + 1), a.f0 ≠ x0) := Lib.hid (by
                        rw [HT2.out]
                        intro a ha
                        rcases List.mem_append.1 ha with ha | ha
                        · exact HN.out a ha
                        · rw [List.mem_singleton] at ha; rw [ha]; exact hxy)
                      have hne : (y.f0 == x0) = false := by simpa using hxy
                      generalize y.f0 = y0 at f0 hne
                      go_wp2_with fail
                      go_big_quiet (fail)
                      go_wp2
                      go_roundw
                      case rel => exact ⟨k + 1, by omega, by go_num, Lib.hid (quiet_step HQ.out _), HN2⟩
                      case measure => simp [intOf]; omega
                  · have hlk2 : ¬ (k : Int) < (i : Int) := by omega
                    have HN3 : Hid (∀ a ∈ es.take i, a.f0 ≠ x0) := Lib.hid (by have := HN.out; rwa [show k = i by omega] at this)
                    have HBq := Lib.hid (show Below w.heap.size w wr from HB.out.trans (quiet_below HQ.out _))
                    have HGaq := Lib.hid (HGa.out.below (quiet_below HQ.out _))
                    have HGbq := Lib.hid (HGb.out.below (quiet_below HQ.out _))
                    go_wp2_with (go_at_call 49; refine (graph_AddEdge_calls w.heap.size ga ma mb VS _ x0 x1 x2 x3 A2 c2 x4 _ HGaq.out (Kd.C_below hA (quiet_below HQ.out _)) (small_fits hp) (by omega) ?hl).mono ?_; (case hl => have := layE_length VS (es.take i) []; rw [List.length_take] at this; simp at this; omega); rintro e w5 ⟨rfl, hG, hb⟩; have HG5 := Lib.hid hG; have HB5 := Lib.hid (hb.keep HBq.out (fun k hk => by rw [hk]; exact HGaq.out.low.2.2) (Nat.le_refl _)); have HGb5 := Lib.hid (HGbq.out.beside hb HLT.out.2 HGaq.out.em.noCells); clear hG hb)
                    go_roundw
                    case rel => exact ⟨i + 1, by omega, by go_num, Lib.hid (by rw [HT.out, layE_snoc]; exact HG5.out), HGb5, HB5, Lib.hid (by rw [HT.out]; exact ⟨pairwise_more HD.out.1 HN3.out, fun a ha => by
                  rcases List.mem_append.1 ha with ha | ha
                  · exact HD.out.2 a ha
                  · rw [List.mem_singleton] at ha; rw [ha]; exact ⟨hp, hs⟩⟩)⟩
                    case measure => simp [intOf]; omega
              · have hs' : (200 : Int) < (x1.size : Int) := by omega
                go_wp2_with (go_at_call 45; refine (law16_props_calls A2 c2 x4 _ (Kd.C_below hA (Below.refl _ _))).mono ?_; rw [hp]; rintro e w6 ⟨rfl, rfl⟩)
                go_ret
                exact ⟨rfl, HB.out⟩
            · have hlt2 : ¬ (i : Int) < (es.length : Int) := by omega
              have HGa3 := Lib.hid (show GraphAt wr w.heap.size ga ma mb VS (layE VS [] es) from by have := HGa.out; rwa [List.take_of_length_le (by omega)] at this)
              have HDe := Lib.hid (show es.Pairwise (fun a b => a.f0 ≠ b.f0) from by have := HD.out.1; rwa [List.take_of_length_le (by omega)] at this)
              have HSe := Lib.hid (show ∀ a ∈ es, lawProps a.f4 = true ∧ a.f1.size ≤ 200 from by have := HD.out.2; rwa [List.take_of_length_le (by omega)] at this)
              have hEl : (layE VS [] es).length ≤ 15 := by have := layE_length VS es []; simp at this; omega
              have HokE := Lib.hid (okE_lay VS es okE_nil)
              have HEP := Lib.hid (fun (l : List SEdg) (hp : es.Perm l) => layE_perm VS hp HDe.out [])
              have HGb3 := HGb
              have HB6 := HB
              clear HGa HGb HB HD
              generalize layE VS [] es = ES at HGa3 hEl HokE HEP
              go_wp2
              go_loopw [13] (fun v13 wr => ∃ (j : Nat) (i : Int), j ≤ vs.length ∧ v13 = .int .i64 i ∧ i = (vs.length : Int) - 1 - j ∧ Hid (GraphAt wr w.heap.size ga ma mb VS ES) ∧ Hid (GraphAt wr D gb na nb (layV [] ((turned vs (turnN turn vs.length)).take j)) []) ∧ Hid (Below w.heap.size w wr)) (fun v13 _ => (intOf v13 + 1).toNat)
              case atStart => exact ⟨0, (vs.length : Int) - 1, by omega, by go_num, by omega, HGa3, HGb3, HB6⟩
              case round =>
                obtain ⟨j, i2, hj, rfl, hi2, HGa, HGb, HB⟩ := hrel
                by_cases hlj : j < vs.length
                · obtain ⟨m, rfl⟩ := Int.eq_ofNat_of_zero_le (show 0 ≤ i2 by omega)
                  have h0 : (0 : Int) ≤ (m : Int) := by omega
                  have hm1 : wrap64 ((m : Int) - 1) = (m : Int) - 1 := wrap64_in (by omega) (by omega)
                  have hn0 : ¬ (vs.length : Int) = 0 := by omega
                  obtain ⟨hw1, hw2, hq, hmod, htl, hjm⟩ := turn_step turn vs.length m j (by omega) hlj hi2
                  have HI2 := Lib.hid hi2
                  clear hi2
                  have HT := Lib.hid (take_more (turned vs (turnN turn vs.length)) j zVert (by rw [turned_length]; exact hlj))
                  rw [turned_at vs _ j zVert htl hlj, hjm] at HT
                  clear htl hjm
                  generalize ((m + turnN turn vs.length) % vs.length : Nat) = q at HT hq hmod
                  have e2 : (q : Int) < (vs.length : Int) := Int.ofNat_lt.2 hmod
                  obtain ⟨ad, A2, c2, e0, g0, g1, g2, hle, hA⟩ := at_Vert (Kd.C_below HV.out HB.out) (q : Int) (Int.natCast_nonneg _) (Int.ofNat_lt.2 hmod)
                  cases e0
                  simp only [Int.toNat_natCast, rd_Vert] at g0 g1 g2 hA
                  obtain ⟨⟨x0, x1, x2⟩, hx⟩ : ∃ z, vs.getD q zVert = z := ⟨_, rfl⟩
                  have hsm := HSv.out (vs.getD q zVert) (by simp [List.getD_eq_getElem?_getD, List.getElem?_eq_getElem hmod])
                  rw [hx] at g0 g1 g2 hA HT hsm
                  clear hx hle
                  simp only at g0 g1 g2 hA
                  go_wp2_with (go_at_call 48; refine (graph_AddVertex_calls D gb na nb _ [] x0 x1 A2 c2 x2 _ HGb.out (Kd.C_below hA (Below.refl _ _)) (small_fits hsm.1) ?hs ?hl).mono ?_; (case hs => have := hsm.2; omega); (case hl => have := layV_length ((turned vs (turnN turn vs.length)).take j) []; rw [List.length_take] at this; simp at this; omega); rintro e w5 ⟨rfl, hG, hb⟩; have HG5 := Lib.hid hG; have HB5 := Lib.hid (hb.keep HB.out (fun k hk => by rw [hk]; have := HGb.out.low.2.1; omega) (Nat.le_refl _)); have HGa5 := Lib.hid (HGa.out.beside' hb HLT.out HGb.out.low.2.1 HGb.out.vm.noCells); clear hG hb)
                  go_roundw
                  case rel => exact ⟨j + 1, (m : Int) - 1, by omega, by go_num, by have := HI2.out; omega, HGa5, Lib.hid (by rw [HT.out, layV_snoc]; exact HG5.out), HB5⟩
                  case measure => clear hw1 hw2 hq; simp [intOf]; omega
                · have h0 : ¬ (0 : Int) ≤ i2 := by omega
                  have HGb4 := Lib.hid (show GraphAt wr D gb na nb VS [] from by
                    have := HGb.out
                    have e := HVP.out (turned vs (turnN turn vs.length)) (turned_perm vs _).symm
                    rwa [List.take_of_length_le (by rw [turned_length]; omega), ← e] at this)
                  have HGa4 := HGa
                  have HB7 := HB
                  clear HGa HGb HB hi2
                  go_wp2
                  go_loopw [14] (fun v14 wr => ∃ (j : Nat) (i : Int), j ≤ es.length ∧ v14 = .int .i64 i ∧ i = (es.length : Int) - 1 - j ∧ Hid (GraphAt wr w.heap.size ga ma mb VS ES) ∧ Hid (GraphAt wr D gb na nb VS (layE VS [] ((turned es (turnN turn es.length)).take j))) ∧ Hid (Below w.heap.size w wr)) (fun v14 _ => (intOf v14 + 1).toNat)
                  case atStart => exact ⟨0, (es.length : Int) - 1, by omega, by go_num, by omega, HGa4, HGb4, HB7⟩
                  case round =>
                    obtain ⟨j, i2, hj, rfl, hi2, HGa, HGb, HB⟩ := hrel
                    by_cases hlj : j < es.length
                    · obtain ⟨m, rfl⟩ := Int.eq_ofNat_of_zero_le (show 0 ≤ i2 by omega)
                      have h0 : (0 : Int) ≤ (m : Int) := by omega
                      have hm1 : wrap64 ((m : Int) - 1) = (m : Int) - 1 := wrap64_in (by omega) (by omega)
                      have hn0 : ¬ (es.length : Int) = 0 := by omega
                      obtain ⟨hw1, hw2, hq, hmod, htl, hjm⟩ := turn_step turn es.length m j (by omega) hlj hi2
                      have HI2 := Lib.hid hi2
                      clear hi2
                      have HT := Lib.hid (take_more (turned es (turnN turn es.length)) j zEdg (by rw [turned_length]; exact hlj))
                      rw [turned_at es _ j zEdg htl hlj, hjm] at HT
                      clear htl hjm
                      generalize ((m + turnN turn es.length) % es.length : Nat) = q at HT hq hmod
                      have e2 : (q : Int) < (es.length : Int) := Int.ofNat_lt.2 hmod
                      obtain ⟨ad, A2, c2, e0, g0, g1, g2, g3, g4, hle, hA⟩ := at_Edg (Kd.C_below HE.out HB.out) (q : Int) (Int.natCast_nonneg _) (Int.ofNat_lt.2 hmod)
                      cases e0
                      simp only [Int.toNat_natCast, rd_Edg] at g0 g1 g2 g3 g4 hA
                      obtain ⟨⟨x0, x1, x2, x3, x4⟩, hx⟩ : ∃ z, es.getD q zEdg = z := ⟨_, rfl⟩
                      have hsm := HSe.out (es.getD q zEdg) (by simp [List.getD_eq_getElem?_getD, List.getElem?_eq_getElem hmod])
                      rw [hx] at g0 g1 g2 g3 g4 hA HT hsm
                      clear hx hle
                      simp only at g0 g1 g2 g3 g4 hA
                      go_wp2_with (go_at_call 49; refine (graph_AddEdge_calls D gb na nb VS _ x0 x1 x2 x3 A2 c2 x4 _ HGb.out (Kd.C_below hA (Below.refl _ _)) (small_fits hsm.1) ?hs ?hl).mono ?_; (case hs => have := hsm.2; omega); (case hl => have := layE_length VS ((turned es (turnN turn es.length)).take j) []; rw [List.length_take] at this; simp at this; omega); rintro e w5 ⟨rfl, hG, hb⟩; have HG5 := Lib.hid hG; have HB5 := Lib.hid (hb.keep HB.out (fun k hk => by rw [hk]; have := HGb.out.low.2.2; omega) (Nat.le_refl _)); have HGa5 := Lib.hid (HGa.out.beside' hb HLT.out HGb.out.low.2.2 HGb.out.em.noCells); clear hG hb)
                      go_roundw
                      case rel => exact ⟨j + 1, (m : Int) - 1, by omega, by go_num, by have := HI2.out; omega, HGa5, Lib.hid (by rw [HT.out, layE_snoc]; exact HG5.out), HB5⟩
                      case measure => clear hw1 hw2 hq; simp [intOf]; omega
                    · have h0 : ¬ (0 : Int) ≤ i2 := by omega
                      have HGb5 := Lib.hid (show GraphAt wr D gb na nb VS ES from by
                        have := HGb.out
                        have e := HEP.out (turned es (turnN turn es.length)) (turned_perm es _).symm
                        rwa [List.take_of_length_le (by rw [turned_length]; omega), ← e] at this)
                      clear HGb hi2
                      go_wp2_with (first
                        | (go_at_call 50; clear p3; refine (graph_All_calls w.heap.size ga ma mb VS ES _ HGa.out HokV.out HokE.out (by omega) (by omega)).mono ?_; rintro e w7 ⟨v1, v2, rfl, hR1, hR2, hb⟩; obtain ⟨A1, c1, rfl, -, hC1⟩ := Kd.R_reads hR1; obtain ⟨A2, c2, rfl, -, hC2⟩ := Kd.R_reads hR2; have HC1 := Lib.hid hC1; have HC2 := Lib.hid hC2; have HB7 := Lib.hid (show Below w.heap.size w w7 from HB.out.trans (hb.mono HB.out.size)); have HGb7 := Lib.hid (HGb5.out.below hb); clear hR1 hR2 hb hC1 hC2)
                        | (go_at_call 50; refine (graph_All_calls D gb na nb VS ES _ HGb7.out HokV.out HokE.out (by omega) (by omega)).mono ?_; rintro e w8 ⟨v3, v4, rfl, hR3, hR4, hb⟩; obtain ⟨A3, c3, rfl, -, hC3⟩ := Kd.R_reads hR3; obtain ⟨A4, c4, rfl, -, hC4⟩ := Kd.R_reads hR4; have HC3 := Lib.hid hC3; have HC4 := Lib.hid hC4; have HC5 := Lib.hid (Kd.C_below HC1.out hb); have HC6 := Lib.hid (Kd.C_below HC2.out hb); have HB8 := Lib.hid (show Below w.heap.size w w8 from HB7.out.trans (hb.mono HB7.out.size)); clear hR3 hR4 hb hC3 hC4)
                        | (go_at_call 18; refine (ref16_SameV_calls A1 A3 c1 c3 VS VS _ HC5.out HC3.out).mono ?_; rw [decide_eq_true (Eq.refl VS)]; rintro e w9 ⟨rfl, hq⟩; have HQ9 := Lib.hid hq; clear hq)
                        | (go_at_call 40; refine (ref16_SameE_calls A2 A4 c2 c4 ES ES _ (Kd.C_below HC6.out (quiet_below HQ9.out _)) (Kd.C_below HC4.out (quiet_below HQ9.out _))).mono ?_; rw [decide_eq_true (Eq.refl ES)]; rintro e w10 ⟨rfl, hq⟩; have HQ10 := Lib.hid hq; clear hq))
                      go_ret
                      exact ⟨rfl, (HB8.out.trans (quiet_below HQ9.out _)).trans (quiet_below HQ10.out _)⟩
    · have h2' : (15 : Int) < (es.length : Int) := by omega
      go_enter Try.func8, Try.ntmps8
      go_wp2_with (first
        | (go_at_call 44; clear p1; refine (law16_awake_calls _).mono ?_; rintro e w1 ⟨rfl, hb⟩; have HB1 := Lib.hid hb; clear hb)
        | (go_at_call 44; clear p2; refine (law16_awake_calls _).mono ?_; rintro e w3 ⟨rfl, hb⟩; have HB3 := Lib.hid (keepB0 hb HB1.out); clear hb))
      go_ret
      exact ⟨rfl, HB3.out⟩
  · have h1' : (15 : Int) < (vs.length : Int) := by omega
    go_enter Try.func8, Try.ntmps8
    go_wp2_with (first
      | (go_at_call 44; clear p1; refine (law16_awake_calls _).mono ?_; rintro e w1 ⟨rfl, hb⟩; have HB1 := Lib.hid hb; clear hb)
      | (go_at_call 44; clear p2; refine (law16_awake_calls _).mono ?_; rintro e w3 ⟨rfl, hb⟩; have HB3 := Lib.hid (keepB0 hb HB1.out); clear hb))
    go_ret
    exact ⟨rfl, HB3.out⟩
/-- For the row. -/
theorem law16_GraphOrders_row (A : Option Addr) (c : Nat) (vs : List SVert) (B : Option Addr) (d : Nat) (es : List SEdg) (turn : Int) (w : World) (hv : kVert.C w A vs.length vs) (_ : ∀ x ∈ vs, gVert x) (he : kEdg.C w B es.length es) (_ : ∀ x ∈ es, gEdg x) (ht : -9223372036854775808 ≤ turn ∧ turn ≤ 9223372036854775807) :
    Calls Try.prog 8 #[.slice A vs.length c, .slice B es.length d, .int .i64 turn] w fun e w' => e = .returned (.bool true) ∧ Below w.heap.size w w' := law16_GraphOrders_calls A c vs B d es turn w hv he ht
end Go.Proofs.Ytonbnlfijmapfaa
