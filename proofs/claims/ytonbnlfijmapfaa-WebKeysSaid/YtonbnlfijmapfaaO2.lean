/- What came in, opened: values, texts, numbers. No condition. -/
import Derived.Test.YtonbnlfijmapfaaO0
import Derived.OpenShut
namespace Go.Proofs.Ytonbnlfijmapfaa
set_option linter.constructorNameAsVariable false
open Go.RowKit Go.ChangeShapes Go.WideShapes Go.Proofs.YtonbnlfijmapfaaW.PrintWords
set_option linter.unusedVariables false
set_option linter.unusedSimpArgs false

set_option maxRecDepth 100000
section
variable {H : Type} {enc : TypeId × Value → H} {W : World} {sp : Nat → Bool} {held : Bool} {r : Reach} {b : Nat} {v : Value} {d : DataW H} {p : List MemPlace}
theorem wf_rng {n : Int} (h : (Lit.int .i64 n).wf = true) : -9223372036854775808 ≤ n ∧ n ≤ 9223372036854775807 := by
  simpa [Lit.wf, IntKind.min, IntKind.max, IntKind.signed, IntKind.bits] using h
theorem open_value (hv : Value.okWide Try.prog W r b 42 v) (h : DataW.Trod enc Try.prog W 0 sp held 42 v d p) :
    ∃ (k n : Int) (s : ByteArray), v = .agg #[.int .i64 k, .int .i64 n, .string s] ∧ (-9223372036854775808 ≤ n ∧ n ≤ 9223372036854775807) ∧ s.size ≤ maxLen := by
  obtain ⟨cs, rfl, -⟩ := okWide_struct Try.underlying42 hv
  obtain ⟨fuel, hf⟩ := h
  obtain ⟨x, hK, hg⟩ := opens_Value enc W sp held fuel _ _ hf
  have e := kValue_open hK
  have e2 : cs.toList = [.int .i64 x.f0, .int .i64 x.f1, .string x.f2] := by simpa [Value.cells] using e
  refine ⟨x.f0, x.f1, x.f2, by rw [← Array.toList_inj.1 (show cs.toList = (#[Value.int .i64 x.f0, .int .i64 x.f1, .string x.f2] : Array Value).toList from e2)], wf_rng hg.2.1, hg.2.2⟩
theorem open_num (hv : Value.okWide Try.prog W r b 3 v) (h : DataW.Trod enc Try.prog W 0 sp held 3 v d p) : ∃ x : Int, v = .int .i64 x ∧ (-9223372036854775808 ≤ x ∧ x ≤ 9223372036854775807) := by
  obtain ⟨x, rfl, _, _, hw⟩ := Go.ChangeShapes.open_int Try.underlying3 hv h
  exact ⟨x, rfl, wf_rng hw⟩
theorem okWide_arr {n : Nat} {e t : TypeId} (ht : Try.prog.underlying t = some (.array n e)) (h : Value.okWide Try.prog W r b t v) : ∃ cs, v = .agg cs ∧ cs.size = Try.prog.cellsOf t := by
  simp only [Value.okWide, ht] at h
  obtain ⟨cs, h1, h2, _⟩ := h
  exact ⟨cs, h1, h2⟩
theorem open_names (hv : Value.okWide Try.prog W r b 53 v) (h : DataW.Trod enc Try.prog W 0 sp held 53 v d p) : ∃ x y : ByteArray, v = .agg #[.string x, .string y] := by
  obtain ⟨cs, rfl, -⟩ := okWide_arr Try.underlying53 hv
  obtain ⟨fuel, hf⟩ := h
  obtain ⟨xs, m, _, _, hl, hn, hx⟩ := DataW.trod_array Try.underlying53 hf
  have hl2 : (Value.agg cs).cells.toList.length = 2 := hl.trans (by kernel_rfl)
  obtain ⟨c0, c1, e⟩ := len2 hl2
  obtain ⟨x0, x1, rfl⟩ := len2 hn
  have g0 := hx 0 (by omega)
  have g1 := hx 1 (by omega)
  rw [e] at g0 g1
  simp [co_string] at g0 g1
  obtain ⟨n0, k0, -⟩ := DataW.trod_string Try.underlying9 g0
  obtain ⟨n1, k1, -⟩ := DataW.trod_string Try.underlying9 g1
  simp only [List.cons.injEq, and_true] at k0 k1
  subst k0; subst k1
  refine ⟨n0, n1, ?_⟩
  have e2 : cs.toList = (#[Value.string n0, .string n1] : Array Value).toList := by simpa [Value.cells] using e
  rw [Array.toList_inj.1 e2]
end
end Go.Proofs.Ytonbnlfijmapfaa
