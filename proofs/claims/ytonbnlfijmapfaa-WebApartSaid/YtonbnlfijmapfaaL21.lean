/- cobweblaw21.WebApart: true, whatever comes in. -/
import Derived.Test.YtonbnlfijmapfaaL20
namespace Go.Proofs.Ytonbnlfijmapfaa
open Go.RowKit Go.Shelf Go.Proofs.YtonbnlfijmapfaaW.PrintWords
set_option linter.unusedVariables false
set_option linter.unusedSimpArgs false

theorem law21_WebApart_calls (i1 i2 x y : Int) (s1 s2 : ByteArray) (A1 A2 : Option Addr) (c1 c2 : Nat) (l1 l2 : List SPrp) (w : World) (h1 : PropsIn w A1 c1 l1) (h2 : PropsIn w A2 c2 l2) :
    Calls Try.prog 3 #[.agg #[.int .i64 i1, .string s1, .slice A1 l1.length c1], .agg #[.int .i64 i2, .string s2, .slice A2 l2.length c2], .agg #[.int .i64 x, .int .i64 y]] w fun e w' => e = .returned (.bool true) ∧ Below w.heap.size w w' := by
  cases p1 : lawProps l1 with
  | false => exact law21_WebApart_no i1 i2 x y s1 s2 A1 A2 c1 c2 l1 l2 w h1 h2 (.inl p1)
  | true =>
  cases p2 : lawProps l2 with
  | false => exact law21_WebApart_no i1 i2 x y s1 s2 A1 A2 c1 c2 l1 l2 w h1 h2 (.inr (.inl ⟨p1, p2⟩))
  | true =>
  by_cases q1 : s1.size ≤ 200
  · by_cases q2 : s2.size ≤ 200
    · by_cases r1 : checkN s1 l1 [i1] = 0
      · by_cases r2 : checkN s2 l2 [i2] = 0
        · exact law21_WebApart_good i1 i2 x y s1 s2 A1 A2 c1 c2 l1 l2 w h1 h2 p1 p2 q1 q2 r1 r2
        · exact law21_WebApart_bad i1 i2 x y s1 s2 A1 A2 c1 c2 l1 l2 w h1 h2 p1 p2 q1 q2 (.inr ⟨r1, r2⟩)
      · exact law21_WebApart_bad i1 i2 x y s1 s2 A1 A2 c1 c2 l1 l2 w h1 h2 p1 p2 q1 q2 (.inl r1)
    · exact law21_WebApart_no i1 i2 x y s1 s2 A1 A2 c1 c2 l1 l2 w h1 h2 (.inr (.inr ⟨p1, p2, .inr ⟨q1, by omega⟩⟩))
  · exact law21_WebApart_no i1 i2 x y s1 s2 A1 A2 c1 c2 l1 l2 w h1 h2 (.inr (.inr ⟨p1, p2, .inl (by omega)⟩))
end Go.Proofs.Ytonbnlfijmapfaa
