/- What came in, opened: values, texts, numbers. No condition. -/
import Derived.Test.YtonbnlfijmapfaaO0
import Derived.OpenShut
namespace Go.Proofs.Ytonbnlfijmapfaa
set_option linter.constructorNameAsVariable false
open Go.RowKit Go.ChangeShapes Go.WideShapes Go.Proofs.YtonbnlfijmapfaaW.PrintWords
set_option linter.unusedVariables false
set_option linter.unusedSimpArgs false

set_option maxRecDepth 100000
section
variable {H : Type} {enc : TypeId × Value → H} {W : World} {sp : Nat → Bool} {held : Bool} {r : Reach} {b : Nat} {v : Value} {d : DataW H} {p : List MemPlace}
theorem wf_rng {n : Int} (h : (Lit.int .i64 n).wf = true) : -9223372036854775808 ≤ n ∧ n ≤ 9223372036854775807 := by
  simpa [Lit.wf, IntKind.min, IntKind.max, IntKind.signed, IntKind.bits] using h
theorem open_value (hv : Value.okWide Try.prog W r b 42 v) (h : DataW.Trod enc Try.prog W 0 sp held 42 v d p) :
    ∃ (k n : Int) (s : ByteArray), v = .agg #[.int .i64 k, .int .i64 n, .string s] ∧ (-9223372036854775808 ≤ n ∧ n ≤ 9223372036854775807) ∧ s.size ≤ maxLen := by
  obtain ⟨cs, rfl, -⟩ := okWide_struct Try.underlying42 hv
  obtain ⟨fuel, hf⟩ := h
  obtain ⟨x, hK, hg⟩ := opens_Value enc W sp held fuel _ _ hf
  have e := kValue_open hK
  have e2 : cs.toList = [.int .i64 x.f0, .int .i64 x.f1, .string x.f2] := by simpa [Value.cells] using e
  refine ⟨x.f0, x.f1, x.f2, by rw [← Array.toList_inj.1 (show cs.toList = (#[Value.int .i64 x.f0, .int .i64 x.f1, .string x.f2] : Array Value).toList from e2)], wf_rng hg.2.1, hg.2.2⟩
end
end Go.Proofs.Ytonbnlfijmapfaa
