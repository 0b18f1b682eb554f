/- web.EdgeKey, ChunkKey, RootKey, LeafKey, number, EntryID; cobwebref21.Number. -/
import Derived.Test.YtonbnlfijmapfaaL17
import Derived.Test.YtonbnlfijmapfaaL22
namespace Go.Proofs.Ytonbnlfijmapfaa
open Go.RowKit Go.Shelf Go.Proofs.YtonbnlfijmapfaaW.PrintWords
set_option linter.unusedVariables false
set_option linter.unusedSimpArgs false

set_option maxHeartbeats 1000000 in
theorem web_EdgeKey_calls (a : Int) (w : World) :
    Calls Try.prog 28 #[.int .i64 a] w fun e w' => e = .returned (.agg #[.int .i64 2, .int .i64 a, .int .i64 0, .string ⟨#[]⟩]) ∧ Below w.heap.size w w' := by
  go_enter Try.func28, Try.ntmps28
  go_wp2
  refine bodyPost_ret (results_cell_row rfl _ _ w.heap.size 55 _ (0, 0) _ rfl (heap_alloc_new _ _) Try.underlying55 rfl (by kernel_rfl)) rfl ?_
  exact ⟨rfl, below_al _ _⟩
set_option maxHeartbeats 1000000 in
theorem web_ChunkKey_calls (a b : Int) (from_ : Bool) (w : World) :
    Calls Try.prog 29 #[.int .i64 a, .bool from_, .int .i64 b] w fun e w' => e = .returned (.agg #[.int .i64 (if from_ = true then 3 else 4), .int .i64 a, .int .i64 b, .string ⟨#[]⟩]) ∧ Below w.heap.size w w' := by
  cases from_
  all_goals
    go_enter Try.func29, Try.ntmps29
    go_wp2
    refine bodyPost_ret (results_cell_row rfl _ _ w.heap.size 55 _ (0, 0) _ rfl (heap_alloc_new _ _) Try.underlying55 rfl (by kernel_rfl)) rfl ?_
    exact ⟨rfl, below_al _ _⟩
set_option maxHeartbeats 1000000 in
theorem web_RootKey_calls (s : ByteArray) (w : World) :
    Calls Try.prog 30 #[.string s] w fun e w' => e = .returned (.agg #[.int .i64 5, .int .i64 0, .int .i64 0, .string s]) ∧ Below w.heap.size w w' := by
  go_enter Try.func30, Try.ntmps30
  go_wp2
  refine bodyPost_ret (results_cell_row rfl _ _ w.heap.size 55 _ (0, 0) _ rfl (heap_alloc_new _ _) Try.underlying55 rfl (by kernel_rfl)) rfl ?_
  exact ⟨rfl, below_al _ _⟩
set_option maxHeartbeats 1000000 in
theorem web_LeafKey_calls (s : ByteArray) (b : Int) (w : World) :
    Calls Try.prog 31 #[.string s, .int .i64 b] w fun e w' => e = .returned (.agg #[.int .i64 6, .int .i64 0, .int .i64 b, .string s]) ∧ Below w.heap.size w w' := by
  go_enter Try.func31, Try.ntmps31
  go_wp2
  refine bodyPost_ret (results_cell_row rfl _ _ w.heap.size 55 _ (0, 0) _ rfl (heap_alloc_new _ _) Try.underlying55 rfl (by kernel_rfl)) rfl ?_
  exact ⟨rfl, below_al _ _⟩

/-- The number of the first five letters. -/
def firstFive (s : ByteArray) : Int := numOf ((bytesOf s).take 5)
/-- .. as far as k letters tell it. -/
theorem numOf_snoc (l : List Int) (x : Int) : numOf (l ++ [x]) = numOf l * 256 + x := by
  induction l with
  | nil => simp [numOf]
  | cons y l ih =>
    rw [List.cons_append, numOf, ih, numOf, List.length_append, List.length_cons, List.length_nil, Int.pow_succ, Int.add_mul, Int.mul_assoc]
    omega
theorem numOf_take (s : ByteArray) (k : Nat) (h : k < s.size) : numOf ((bytesOf s).take (k + 1)) = numOf ((bytesOf s).take k) * 256 + ((s[k]'h).toNat : Int) := by
  rw [bytesOf_drop s k h, numOf_snoc]
theorem bytesOf_small (s : ByteArray) : ∀ x ∈ bytesOf s, 0 ≤ x ∧ x < 256 := by
  intro x hx
  simp only [bytesOf, List.mem_map] at hx
  obtain ⟨b, _, rfl⟩ := hx
  have := b.toNat_lt
  omega
theorem numOf_lt5 (s : ByteArray) (k : Nat) (h : k < 5) : 0 ≤ numOf ((bytesOf s).take k) ∧ numOf ((bytesOf s).take k) < 4294967296 := by
  have h1 := numOf_lt ((bytesOf s).take k) (fun x hx => bytesOf_small s x (List.mem_of_mem_take hx))
  have h2 : ((bytesOf s).take k).length ≤ 4 := Nat.le_trans (List.length_take_le _ _) (by omega)
  have h3 : (256 : Int) ^ ((bytesOf s).take k).length ≤ 256 ^ 4 := by
    have : ((bytesOf s).take k).length = 0 ∨ ((bytesOf s).take k).length = 1 ∨ ((bytesOf s).take k).length = 2 ∨ ((bytesOf s).take k).length = 3 ∨ ((bytesOf s).take k).length = 4 := by omega
    rcases this with h | h | h | h | h <;> rw [h] <;> decide
  omega

set_option maxHeartbeats 2000000 in
theorem ref21_Number_calls (s : ByteArray) (w : World) (hs : 5 ≤ s.size) (hs2 : s.size ≤ 140737488355328) :
    Calls Try.prog 35 #[.string s] w fun e w' => e = .returned (.int .i64 (firstFive s)) ∧ w = w' := by
  go_enter Try.func35, Try.ntmps35
  go_wp2
  go_loopw [3, 4] (fun v3 v4 wr => ∃ (k : Nat) (u : Int), k ≤ 5 ∧ v4 = .int .i64 (k : Int) ∧ v3 = .int .i64 u ∧ Hid (u = numOf ((bytesOf s).take k)) ∧ wr = w) (fun _ v4 _ => (5 - intOf v4).toNat)
  case atStart => exact ⟨0, 0, by omega, rfl, rfl, Lib.hid (by simp [numOf]), rfl⟩
  case round =>
    obtain ⟨k, u, hk, rfl, rfl, HU, rfl⟩ := hrel
    by_cases hlt : k < 5
    · have hlt1 : (k : Int) < 5 := by omega
      have hlt2 : k < s.size := by omega
      have hlt3 : (k : Int) < (s.size : Int) := by omega
      have HT := Lib.hid (numOf_take s k hlt2)
      have hb := numOf_lt5 s k hlt
      rw [← HU.out] at hb
      obtain ⟨hb0, hb1⟩ := hb
      have hc := (s[k]'hlt2).toNat_lt
      go_wp2
      go_roundw
      case rel => exact ⟨k + 1, _, by omega, by go_num, rfl, Lib.hid (by rw [HT.out, ← HU.out]), by trivial⟩
      case measure => simp [intOf]; omega
    · have hlt1 : ¬ (k : Int) < 5 := by omega
      obtain rfl : k = 5 := by omega
      go_wp2
      go_ret
      exact ⟨ret_int HU.out, rfl⟩
end Go.Proofs.Ytonbnlfijmapfaa
