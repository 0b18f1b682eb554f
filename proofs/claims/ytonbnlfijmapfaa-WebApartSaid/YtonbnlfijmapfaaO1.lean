/- What came in, opened: arguments. No condition. -/
import Derived.Test.YtonbnlfijmapfaaO0
import Derived.Test.YtonbnlfijmapfaaL18
import Derived.OpenShut
namespace Go.Proofs.Ytonbnlfijmapfaa
set_option linter.constructorNameAsVariable false
open Go.RowKit Go.ChangeShapes Go.WideShapes Go.Proofs.YtonbnlfijmapfaaW.PrintWords
set_option linter.unusedVariables false
set_option linter.unusedSimpArgs false

set_option maxRecDepth 100000
theorem okWide_ends {W : World} {r : Reach} {b : Nat} {v : Value} {n : Nat} {e t : TypeId} (ht : Try.prog.underlying t = some (.array n e)) (h : Value.okWide Try.prog W r b t v) : ∃ cs, v = .agg cs ∧ cs.size = Try.prog.cellsOf t := by
  simp only [Value.okWide, ht] at h
  obtain ⟨cs, h1, h2, _⟩ := h
  exact ⟨cs, h1, h2⟩
section
variable {H : Type} {enc : TypeId × Value → H} {W : World} {sp : Nat → Bool} {held : Bool} {r : Reach} {b : Nat} {v : Value} {d : DataW H} {p : List MemPlace}
theorem wf_range {n : Int} (h : (Lit.int .i64 n).wf = true) : -9223372036854775808 ≤ n ∧ n ≤ 9223372036854775807 := by
  simpa [Lit.wf, IntKind.min, IntKind.max, IntKind.signed, IntKind.bits] using h
theorem open_vert (hv : Value.okWide Try.prog W r b 24 v) (h : DataW.Trod enc Try.prog W 0 sp held 24 v d p) :
    ∃ (id : Int) (s : ByteArray) (A : Option Addr) (c : Nat) (l : List SPrp), v = .agg #[.int .i64 id, .string s, .slice A l.length c] ∧ PropsIn W A c l ∧ (-9223372036854775808 ≤ id ∧ id ≤ 9223372036854775807) ∧ s.size ≤ maxLen := by
  obtain ⟨cs, rfl, -⟩ := okWide_struct Try.underlying24 hv
  obtain ⟨fuel, hf⟩ := h
  obtain ⟨x, hK, hg⟩ := opens_Vert enc W sp held fuel _ _ hf
  obtain ⟨A, c, e, hle, hC⟩ := kVert_open hK
  have e2 : cs.toList = [.int .i64 x.f0, .string x.f1, .slice A x.f2.length c] := by simpa [Value.cells] using e
  refine ⟨x.f0, x.f1, A, c, x.f2, by rw [← Array.toList_inj.1 (show cs.toList = (#[Value.int .i64 x.f0, .string x.f1, .slice A x.f2.length c] : Array Value).toList from e2)], ⟨hC, fun q hq => wf_range (hg.2.2 q hq).2.2.1, hle⟩, wf_range hg.1, hg.2.1⟩
theorem open_ends (hv : Value.okWide Try.prog W r b 25 v) (h : DataW.Trod enc Try.prog W 0 sp held 25 v d p) : ∃ x y : Int, v = .agg #[.int .i64 x, .int .i64 y] := by
  obtain ⟨cs, rfl, -⟩ := okWide_ends Try.underlying25 hv
  obtain ⟨fuel, hf⟩ := h
  obtain ⟨xs, m, _, _, hl, hn, hx⟩ := DataW.trod_array Try.underlying25 hf
  have hl2 : (Value.agg cs).cells.toList.length = 2 := hl.trans (by kernel_rfl)
  obtain ⟨c0, c1, e⟩ := len2 hl2
  obtain ⟨x0, x1, rfl⟩ := len2 hn
  have g0 := hx 0 (by omega)
  have g1 := hx 1 (by omega)
  rw [e] at g0 g1
  simp [co_int] at g0 g1
  obtain ⟨n0, k0, -⟩ := DataW.trod_int Try.underlying3 g0
  obtain ⟨n1, k1, -⟩ := DataW.trod_int Try.underlying3 g1
  simp only [List.cons.injEq, and_true] at k0 k1
  subst k0; subst k1
  refine ⟨n0, n1, ?_⟩
  have e2 : cs.toList = (#[Value.int .i64 n0, .int .i64 n1] : Array Value).toList := by simpa [Value.cells] using e
  rw [Array.toList_inj.1 e2]
end
end Go.Proofs.Ytonbnlfijmapfaa
