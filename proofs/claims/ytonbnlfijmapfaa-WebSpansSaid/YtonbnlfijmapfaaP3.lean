/- Plain: spans: a value's entries lie between just if the value does. No condition. -/
import Derived.Test.YtonbnlfijmapfaaL24
import Derived.Test.YtonbnlfijmapfaaP1
namespace Go.Proofs.Ytonbnlfijmapfaa
open Go.RowKit Go.Shelf Go.Proofs.YtonbnlfijmapfaaW.PrintWords
set_option linter.unusedVariables false
set_option linter.unusedSimpArgs false

theorem bytesOf_nil {s : ByteArray} (h : s.toList.isEmpty = true) : bytesOf s = [] := by
  have : s.toList = [] := by simpa using h
  have e : s = ByteArray.empty := by
    have h2 : s.toList = ByteArray.empty.toList := by rw [this]; simp
    exact of_decide_eq_true (by rw [← toList_eq, h2]; simp)
  subst e; rfl
theorem ord_nil_cons (x : Int) (l : List Int) : ord [] (x :: l) = -1 := rfl
theorem ord_anti : ∀ (a b : List Int), ord b a = - ord a b
  | [], [] => rfl
  | [], _ :: _ => rfl
  | _ :: _, [] => rfl
  | x :: a, y :: b => by
    rcases Int.lt_trichotomy x y with h | h | h
    · rw [ord_lt _ _ _ _ h, ord_gt _ _ _ _ h]; rfl
    · subst h; rw [ord_at, ord_at, ord_anti a b]
    · rw [ord_gt _ _ _ _ h, ord_lt _ _ _ _ h]
theorem cmpV_anti (k1 n1 k2 n2 : Int) (s1 s2 : ByteArray) : cmpV k2 n2 s2 k1 n1 s1 = - cmpV k1 n1 s1 k2 n2 s2 := by
  unfold cmpV
  rcases Int.lt_trichotomy k1 k2 with h | h | h
  · rw [if_neg (by omega), if_neg (by omega), if_neg (by omega), if_pos h]; rfl
  · subst h
    rw [if_pos rfl, if_pos rfl]
    rcases Int.lt_trichotomy n1 n2 with h | h | h
    · rw [if_neg (by omega), if_neg (by omega), if_neg (by omega), if_pos h]; rfl
    · subst h; rw [if_pos rfl, if_pos rfl, ord_anti]
    · rw [if_neg (by omega), if_pos h, if_neg (by omega), if_neg (by omega)]
  · rw [if_neg (by omega), if_pos h, if_neg (by omega), if_neg (by omega)]
/-- The order of values' bytes is the order of the values; where they are one, what stands behind decides. -/
theorem ord_val {k1 n1 k2 n2 : Int} {s1 s2 : ByteArray} (a b : List Int) (h1 : -9223372036854775808 ≤ n1 ∧ n1 ≤ 9223372036854775807) (h2 : -9223372036854775808 ≤ n2 ∧ n2 ≤ 9223372036854775807) (v1 : valOk k1 n1 s1 = true) (v2 : valOk k2 n2 s2 = true) :
    ord (valBytes k1 n1 s1 ++ a) (valBytes k2 n2 s2 ++ b) = lexOr (cmpV k1 n1 s1 k2 n2 s2) (ord a b) := by
  rcases valOk_parts v1 with ⟨rfl, e1⟩ | ⟨rfl, rfl, _⟩ <;> rcases valOk_parts v2 with ⟨rfl, e2⟩ | ⟨rfl, rfl, _⟩
  · rw [valBytes, if_pos rfl, valBytes, if_pos rfl, ord_intBytes _ _ _ _ h1.1 h1.2 h2.1 h2.2, cmpV, if_pos rfl, bytesOf_nil e1, bytesOf_nil e2]
    rcases Int.lt_trichotomy n1 n2 with h | h | h
    · rw [if_neg (by omega), if_pos h, if_neg (by omega), lexOr_m]
    · subst h; rw [if_pos rfl, if_pos rfl]; exact (lexOr_0 _).symm
    · rw [if_neg (by omega), if_neg (by omega), if_neg (by omega), lexOr_1]
  · rw [valBytes, if_pos rfl, valBytes, if_neg (by omega), cmpV, if_neg (by omega), if_pos (by omega), lexOr_m, intBytes, List.cons_append, List.cons_append, ord_lt _ _ _ _ (by omega)]
  · rw [valBytes, if_neg (by omega), valBytes, if_pos rfl, cmpV, if_neg (by omega), if_neg (by omega), lexOr_1, intBytes, List.cons_append, List.cons_append, ord_gt _ _ _ _ (by omega)]
  · rw [valBytes, if_neg (by omega), valBytes, if_neg (by omega), cmpV, if_pos rfl, if_pos rfl, List.cons_append, List.cons_append, ord_at, List.append_assoc, List.append_assoc]
    exact ord_esc _ _ _ _ (fun x hx => (byteList_bytesOf s1 x hx).1) (fun x hx => (byteList_bytesOf s2 x hx).1)

theorem ord_top (n : Int) : ord (fiveBytes n) [255, 255, 255, 255, 255, 0] = -1 := by
  have key : ∀ (x : Int) (a b : List Int), x % 256 = x % 256 → ord a b = -1 → ord (x % 256 :: a) (255 :: b) = -1 := by
    intro x a b _ h
    by_cases e : x % 256 = 255
    · rw [e, ord_at, h]
    · exact ord_lt _ _ _ _ (by omega)
  unfold fiveBytes
  exact key _ _ _ rfl (key _ _ _ rfl (key _ _ _ rfl (key _ _ _ rfl (key _ _ _ rfl rfl))))
theorem fiveBytes_cons (n : Int) : ∃ x l, fiveBytes n = x :: l := ⟨_, _, rfl⟩
theorem bytesOf_entry (k n id : Int) (s : ByteArray) : bytesOf (strOfNums (valBytes k n s) ++ strOfNums (fiveBytes id)) = valBytes k n s ++ fiveBytes id := by
  rw [bytesOf_append, bytesOf_strOfNums (byteList_val _ _ _), bytesOf_strOfNums (byteList_five _)]
theorem span_low {k1 n1 k2 n2 : Int} {s1 s2 : ByteArray} (id : Int) (h1 : -9223372036854775808 ≤ n1 ∧ n1 ≤ 9223372036854775807) (h2 : -9223372036854775808 ≤ n2 ∧ n2 ≤ 9223372036854775807) (v1 : valOk k1 n1 s1 = true) (v2 : valOk k2 n2 s2 = true) :
    decide (ord (bytesOf (strOfNums (valBytes k2 n2 s2))) (bytesOf (strOfNums (valBytes k1 n1 s1) ++ strOfNums (fiveBytes id))) ≤ 0) = decide (0 ≤ cmpV k1 n1 s1 k2 n2 s2) := by
  rw [bytesOf_entry, bytesOf_strOfNums (byteList_val _ _ _)]
  have e := ord_val [] (fiveBytes id) h2 h1 v2 v1
  rw [List.append_nil] at e
  obtain ⟨x, l, e5⟩ := fiveBytes_cons id
  rw [e, e5, ord_nil_cons, cmpV_anti k1 n1 k2 n2 s1 s2, Bool.eq_iff_iff]
  simp only [decide_eq_true_eq]
  unfold lexOr
  split <;> omega
theorem span_high {k1 n1 k2 n2 : Int} {s1 s2 : ByteArray} (id : Int) (h1 : -9223372036854775808 ≤ n1 ∧ n1 ≤ 9223372036854775807) (h2 : -9223372036854775808 ≤ n2 ∧ n2 ≤ 9223372036854775807) (v1 : valOk k1 n1 s1 = true) (v2 : valOk k2 n2 s2 = true) :
    decide (ord (bytesOf (strOfNums (valBytes k1 n1 s1) ++ strOfNums (fiveBytes id))) (bytesOf (strOfNums (valBytes k2 n2 s2) ++ topTail)) < 0) = decide (cmpV k1 n1 s1 k2 n2 s2 ≤ 0) := by
  rw [bytesOf_entry, bytesOf_append, bytesOf_strOfNums (byteList_val _ _ _), show bytesOf topTail = [255, 255, 255, 255, 255, 0] from rfl, ord_val _ _ h1 h2 v1 v2, ord_top, Bool.eq_iff_iff]
  simp only [decide_eq_true_eq]
  unfold lexOr
  split <;> omega
end Go.Proofs.Ytonbnlfijmapfaa
