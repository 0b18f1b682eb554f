/- '==' of the program's plain structs. No condition. -/
import Derived.Test.YtonbnlfijmapfaaK0
import Derived.Test.YtonbnlfijmapfaaWEqStruct
import Derived.Laws.Strings
namespace Go.Proofs.Ytonbnlfijmapfaa
open Go.RowKit Go.Proofs.YtonbnlfijmapfaaW.PrintWords
set_option linter.unusedVariables false
set_option linter.unusedSimpArgs false

deriving instance DecidableEq for SValue
deriving instance DecidableEq for SPrp
deriving instance DecidableEq for SEntry
deriving instance DecidableEq for SKey
deriving instance DecidableEq for SVert
deriving instance DecidableEq for SEdg

theorem data_beq {a b : ByteArray} : (a == b) = decide (a = b) := by
  cases a with | mk x => cases b with | mk y =>
  have e : ((⟨x⟩ : ByteArray) == ⟨y⟩) = (x == y) := rfl
  rw [e, Bool.eq_iff_iff]; simp
theorem toList_eq {a b : ByteArray} : (a.toList == b.toList) = decide (a = b) := by rw [← beq_toListBytes, data_beq]
theorem eqA_Value (d : Nat) (w : World) (x0 y0 : Int) (x1 y1 : Int) (x2 y2 : ByteArray) :
    (Op.equalIn (d + 2) 42 (.agg #[.int .i64 x0, .int .i64 x1, .string x2]) (.agg #[.int .i64 y0, .int .i64 y1, .string y2])).run Try.prog w = .ok (x0 == y0 && (x1 == y1 && (x2.toList == y2.toList))) w := by
  refine eqA_of Try.underlying42 (by kernel_rfl) ?_
  refine eqf_cons (by rfl) (by go_simp; rfl) (by go_simp; rfl) (by go_simp) ?_
  refine eqf_cons (by rfl) (by go_simp; rfl) (by go_simp; rfl) (by go_simp) ?_
  exact eqf_last (by rfl) (by go_simp; rfl) (by go_simp; rfl) (by go_simp)
theorem eqA_Prp (d : Nat) (w : World) (x0 y0 : ByteArray) (x1 y1 : Int) (x2 y2 : Int) (x3 y3 : ByteArray) :
    (Op.equalIn (d + 3) 117 (.agg #[.string x0, .int .i64 x1, .int .i64 x2, .string x3]) (.agg #[.string y0, .int .i64 y1, .int .i64 y2, .string y3])).run Try.prog w = .ok (x0.toList == y0.toList && ((x1 == y1 && (x2 == y2 && (x3.toList == y3.toList))))) w := by
  refine eqA_of Try.underlying117 (by kernel_rfl) ?_
  refine eqf_cons (by rfl) (by go_simp; rfl) (by go_simp; rfl) (by go_simp) ?_
  exact eqf_last (by rfl) (by go_simp) (by go_simp) (eqA_Value (d + 0) w _ _ _ _ _ _)
theorem eqA_Entry (d : Nat) (w : World) (x0 y0 x1 y1 : ByteArray) :
    (Op.equalIn (d + 2) 39 (.agg #[.string x0, .string x1]) (.agg #[.string y0, .string y1])).run Try.prog w = .ok (x0.toList == y0.toList && (x1.toList == y1.toList)) w := by
  refine eqA_of Try.underlying39 (by kernel_rfl) ?_
  refine eqf_cons (by rfl) (by go_simp; rfl) (by go_simp; rfl) (by go_simp) ?_
  exact eqf_last (by rfl) (by go_simp; rfl) (by go_simp; rfl) (by go_simp)
theorem eqA_Key (d : Nat) (w : World) (x0 y0 x1 y1 x2 y2 : Int) (x3 y3 : ByteArray) :
    (Op.equalIn (d + 2) 55 (.agg #[.int .i64 x0, .int .i64 x1, .int .i64 x2, .string x3]) (.agg #[.int .i64 y0, .int .i64 y1, .int .i64 y2, .string y3])).run Try.prog w = .ok (x0 == y0 && (x1 == y1 && (x2 == y2 && (x3.toList == y3.toList)))) w := by
  refine eqA_of Try.underlying55 (by kernel_rfl) ?_
  refine eqf_cons (by rfl) (by go_simp; rfl) (by go_simp; rfl) (by go_simp) ?_
  refine eqf_cons (by rfl) (by go_simp; rfl) (by go_simp; rfl) (by go_simp) ?_
  refine eqf_cons (by rfl) (by go_simp; rfl) (by go_simp; rfl) (by go_simp) ?_
  exact eqf_last (by rfl) (by go_simp; rfl) (by go_simp; rfl) (by go_simp)
/-- Laid ahead of a walk, where it is known how they are. -/
theorem eq_Prp {x0 y0 : ByteArray} {x1 y1 : Int} {x2 y2 : Int} {x3 y3 : ByteArray} {b : Bool} (h : decide ((⟨x0, ⟨x1, x2, x3⟩⟩ : SPrp) = ⟨y0, ⟨y1, y2, y3⟩⟩) = b) (w : World) :
    (Op.equalIn 10000 117 (.agg #[.string x0, .int .i64 x1, .int .i64 x2, .string x3]) (.agg #[.string y0, .int .i64 y1, .int .i64 y2, .string y3])).run Try.prog w = .ok b w := by
  rw [eqA_Prp 9997, ← h]; congr 1; rw [toList_eq, toList_eq, Bool.eq_iff_iff]; simp
theorem eq_Entry {x0 y0 x1 y1 : ByteArray} {b : Bool} (h : decide ((⟨x0, x1⟩ : SEntry) = ⟨y0, y1⟩) = b) (w : World) :
    (Op.equalIn 10000 39 (.agg #[.string x0, .string x1]) (.agg #[.string y0, .string y1])).run Try.prog w = .ok b w := by
  rw [eqA_Entry 9998, ← h]; congr 1; rw [toList_eq, toList_eq, Bool.eq_iff_iff]; simp
theorem eq_Key {x0 y0 x1 y1 x2 y2 : Int} {x3 y3 : ByteArray} {b : Bool} (h : decide ((⟨x0, x1, x2, x3⟩ : SKey) = ⟨y0, y1, y2, y3⟩) = b) (w : World) :
    (Op.equalIn 10000 55 (.agg #[.int .i64 x0, .int .i64 x1, .int .i64 x2, .string x3]) (.agg #[.int .i64 y0, .int .i64 y1, .int .i64 y2, .string y3])).run Try.prog w = .ok b w := by
  rw [eqA_Key 9998, ← h]; congr 1; rw [toList_eq, Bool.eq_iff_iff]; simp
/-- Nothing but draws. -/
def Quiet (w w' : World) : Prop := ∃ m, w' = w.drewN m
theorem quiet_refl (w : World) : Quiet w w := ⟨0, rfl⟩
theorem quiet_below {w w' : World} (h : Quiet w w') (B : Nat) : Below B w w' := by obtain ⟨m, rfl⟩ := h; exact ⟨rfl, rfl, rfl, Nat.le_refl _, fun _ _ => rfl⟩
theorem quiet_step {w w' : World} (h : Quiet w w') (n : Nat) : Quiet w (w'.drewN n) := by obtain ⟨m, rfl⟩ := h; exact ⟨m + n, by simp⟩
end Go.Proofs.Ytonbnlfijmapfaa
