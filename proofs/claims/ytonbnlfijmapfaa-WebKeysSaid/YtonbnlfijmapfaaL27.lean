/- web.number, EntryID. -/
import Derived.Test.YtonbnlfijmapfaaL25
import Derived.Test.YtonbnlfijmapfaaL4
namespace Go.Proofs.Ytonbnlfijmapfaa
open Go.RowKit Go.Shelf Go.Proofs.YtonbnlfijmapfaaW.PrintWords
set_option linter.unusedVariables false
set_option linter.unusedSimpArgs false

/-- '[]byte(s)', behind one name. -/
theorem bytes_conv (w : World) (s : ByteArray) (hs : s.size ≤ 140737488355328) :
    ∃ A cap W', (convert 9 46 (.string s)).run Try.prog w = .ok (.slice A s.size cap) W' ∧ (Kd.int .u8).C W' A s.size (bytesOf s) ∧ Below w.heap.size w W' := by
  have h := run_bytes_of_string (P := Try.prog) w 9 46 5 s Try.underlying9 Try.underlying46 Try.underlying5
  refine ⟨_, _, _, h, ?_, (below_drew (Below.refl w.heap.size w)).alloc (Nat.le_refl _) _⟩
  refine Kd.C_of_reads (d := (0 : Int)) ⟨bytesOf_length s, by omega, fun hn => ⟨_, rfl, fun j hj => ?_⟩⟩
  have hj2 : j < s.data.size := hj
  rw [add_plain, show (w.drew.alloc _).cell? ⟨w.heap.size, j, none⟩ = _ from cell_of_row _ _ _ _ _ _ (heap_alloc_new w.drew _), bytesRow, Array.getElem?_append_left (by simpa using hj2)]
  simp [bytesOf, List.getD_eq_getElem?_getD, Array.getElem?_eq_getElem hj2]

theorem i64_or_add (u y : Int) (h0 : 0 ≤ u) (h1 : u < 4294967296) (y0 : 0 ≤ y) (y1 : y < 256) : bits .or .i64 (u * 256) y = u * 256 + y := by
  obtain ⟨a, rfl⟩ := Int.eq_ofNat_of_zero_le h0
  obtain ⟨b, rfl⟩ := Int.eq_ofNat_of_zero_le y0
  have e : ((a : Int) * 256) = ((a * 256 : Nat) : Int) := by simp
  show IntKind.i64.wrap ((BitVec.ofInt 64 ((a : Int) * 256) ||| BitVec.ofInt 64 (b : Int)).toNat : Int) = _
  rw [e, BitVec.toNat_or, ofInt_u64 (a * 256) (by omega), ofInt_u64 b (by omega), nat_join 8 _ _ (by omega) (by omega)]
  simp [IntKind.wrap, IntKind.bits, IntKind.signed]
  omega
theorem bytesOf_five (s : ByteArray) (k : Nat) (hk : k < 5) (h : k < s.size) : rd (bytesOf (s.extract 0 5)) (k : Int) = ((s[k]'h).toNat : Int) := by
  have e : bytesOf (s.extract 0 5) = (bytesOf s).take 5 := by simp [bytesOf, ByteArray.data_extract, Array.toList_extract, List.extract_eq_take_drop]
  have hl : k < (bytesOf s).length := by rw [bytesOf_length]; exact h
  simp only [rd, e, List.getD_eq_getElem?_getD, Int.toNat_natCast]
  rw [List.getElem?_take_of_lt hk, List.getElem?_eq_getElem hl]
  simp [bytesOf]
  rfl
set_option maxRecDepth 100000 in
set_option maxHeartbeats 2000000 in
theorem web_number_calls (s : ByteArray) (w : World) (hs : 5 ≤ s.size) (hs2 : s.size ≤ 1000000) :
    Calls Try.prog 74 #[.string s] w fun e w' => e = .returned (.int .i64 (firstFive s)) ∧ Below w.heap.size w w' := by
  obtain ⟨A1, c1, w1, e1, r1, b1⟩ := bytes_conv w (s.extract 0 5) (by simp [ByteArray.size_extract]; omega)
  go_enter Try.func74, Try.ntmps74
  have HC := Lib.hid r1
  have HB := Lib.hid b1
  clear r1 b1
  go_wp2_with fail
  have hr5 : (Kd.int .u8).C w1 A1 5 (bytesOf (s.extract 0 5)) := by
    have e : (s.extract 0 5).size = 5 := by simp [ByteArray.size_extract]; omega
    have := HC.out
    rwa [e] at this
  have HR := Lib.hid hr5
  clear hr5
  go_loopw [3, 10] (fun v3 v10 wr => ∃ (k : Nat) (u : Int), k ≤ 5 ∧ v10 = .int .i64 (k : Int) ∧ v3 = .int .i64 u ∧ Hid (u = numOf ((bytesOf s).take k)) ∧ wr = w1) (fun _ v10 _ => (5 - intOf v10).toNat)
  case atStart => exact ⟨0, 0, by omega, rfl, rfl, Lib.hid (by simp [numOf]), rfl⟩
  case round =>
    obtain ⟨k, u, hk, rfl, rfl, HU, rfl⟩ := hrel
    by_cases hlt : k < 5
    · have hlt1 : (k : Int) < 5 := by omega
      have hlt2 : k < s.size := by omega
      have HT := Lib.hid (numOf_take s k hlt2)
      have hb := numOf_lt5 s k hlt
      rw [← HU.out] at hb
      obtain ⟨hb0, hb1⟩ := hb
      have hc : 0 ≤ ((s[k]'hlt2).toNat : Int) ∧ ((s[k]'hlt2).toNat : Int) < 256 := by have := (s[k]'hlt2).toNat_lt; omega
      obtain ⟨hc0, hc1⟩ := hc
      obtain ⟨ad, rfl, g0⟩ := Kd.at_int HR.out (k : Int) (by omega) (by omega)
      simp only [Int.toNat_natCast] at g0
      rw [bytesOf_five s k hlt hlt2] at g0
      have HO := Lib.hid (i64_or_add u ((s[k]'hlt2).toNat : Int) hb0 hb1 (by omega) (by omega))
      generalize ((s[k]'hlt2).toNat : Int) = y at *
      go_wp2
      go_roundw
      case rel => exact ⟨k + 1, _, by omega, by go_num, rfl, Lib.hid (by rw [HT.out, ← HU.out]; exact HO.out), by trivial⟩
      case measure => simp [intOf]; omega
    · have hlt1 : ¬ (k : Int) < 5 := by omega
      obtain rfl : k = 5 := by omega
      go_wp2
      go_ret
      exact ⟨ret_int HU.out, HB.out⟩

/-- An entry's number. -/
def entryNum (s : ByteArray) : Int := if s.size < 5 then -1 else firstFive (s.extract (s.size - 5) s.size)
set_option maxRecDepth 100000 in
set_option maxHeartbeats 2000000 in
theorem web_EntryID_calls (s : ByteArray) (w : World) (hs2 : s.size ≤ 1000000) :
    Calls Try.prog 32 #[.string s] w fun e w' => e = .returned (.int .i64 (entryNum s)) ∧ Below w.heap.size w w' := by
  by_cases h : s.size < 5
  · have h1 : (s.size : Int) < 5 := by omega
    go_enter Try.func32, Try.ntmps32
    go_wp2
    go_ret
    exact ⟨ret_int (by rw [entryNum, if_pos h]), Below.refl _ _⟩
  · have h1 : ¬ (s.size : Int) < 5 := by omega
    have h2 : (0 : Int) ≤ (s.size : Int) - 5 := by omega
    have h3 : ((s.size : Int) - 5).toNat = s.size - 5 := by omega
    have hz : (s.extract (s.size - 5) s.size).size = 5 := by simp [ByteArray.size_extract]; omega
    have HZ := Lib.hid hz; clear hz
    go_enter Try.func32, Try.ntmps32
    go_wp2_with (go_at_call 74; refine (web_number_calls (s.extract (s.size - 5) s.size) _ (by rw [HZ.out]; omega) (by rw [HZ.out]; omega)).mono ?_; rintro e w1 ⟨rfl, hb1⟩)
    go_ret
    exact ⟨ret_int (by rw [entryNum, if_neg h]), hb1⟩
end Go.Proofs.Ytonbnlfijmapfaa
