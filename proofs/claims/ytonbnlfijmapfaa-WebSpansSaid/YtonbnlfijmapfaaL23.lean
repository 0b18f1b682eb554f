/- cobwebref02.Bytes, Compare. -/
import Derived.Test.YtonbnlfijmapfaaL22
import Derived.Test.YtonbnlfijmapfaaK3
namespace Go.Proofs.Ytonbnlfijmapfaa
open Go.RowKit Go.Shelf Go.Proofs.YtonbnlfijmapfaaW.PrintWords
set_option linter.unusedVariables false
set_option linter.unusedSimpArgs false

/-- A slice of bytes, of the call's own. -/
def RetRow (w : World) (l : List Int) (e : Ending) (w' : World) : Prop := ∃ v, e = .returned v ∧ (Kd.int .u8).R 5 w' w.heap.size (fun _ => True) v l ∧ Below w.heap.size w w'

def tailBytes (u : Int) (j : Nat) : List Int := ((List.range 8).map (u8z u)).drop (8 - j)
theorem tailBytes_step (u : Int) (j : Nat) (h : j < 8) : tailBytes u (j + 1) = (u / 256 ^ j % 256) :: tailBytes u j := by
  have : j = 0 ∨ j = 1 ∨ j = 2 ∨ j = 3 ∨ j = 4 ∨ j = 5 ∨ j = 6 ∨ j = 7 := by omega
  rcases this with rfl | rfl | rfl | rfl | rfl | rfl | rfl | rfl <;> rfl
theorem tailBytes_all (u : Int) : 1 :: tailBytes u 8 = 1 :: (List.range 8).map (u8z u) := rfl
theorem tailBytes_length (u : Int) (j : Nat) : (tailBytes u j).length ≤ 8 := by simp [tailBytes]
theorem div_step (u : Int) (j : Nat) : u / 256 ^ j / 256 = u / 256 ^ (j + 1) := by
  rw [Int.pow_succ, Int.ediv_ediv_of_nonneg (Int.pow_nonneg (by decide))]
theorem div_range (u : Int) (j : Nat) (h0 : 0 ≤ u) (h1 : u < 18446744073709551616) : 0 ≤ u / 256 ^ j ∧ u / 256 ^ j < 18446744073709551616 := by
  have hp : (0 : Int) < 256 ^ j := Int.pow_pos (by decide)
  refine ⟨Int.ediv_nonneg h0 (by omega), Int.lt_of_le_of_lt (Int.ediv_le_self _ h0) h1⟩

set_option maxHeartbeats 2000000 in
set_option maxRecDepth 100000 in
theorem ref02_Bytes_int (n : Int) (s : ByteArray) (w : World) (h0 : -9223372036854775808 ≤ n) (h1 : n ≤ 9223372036854775807) :
    Calls Try.prog 23 #[.agg #[.int .i64 1, .int .i64 n, .string s]] w (RetRow w (intBytes n)) := by
  have HU0 := Lib.hid (div_range (n + 9223372036854775808) 0 (by omega) (by omega))
  go_enter Try.func23, Try.ntmps23
  go_wp2_with fail
  have HB0 := Lib.hid (below_al w (.cells #[.int .i64 1, .int .i64 n, .string s] 42))
  go_loopw [3, 4, 5] (fun v3 v4 v5 wr => ∃ (j : Nat) (q : Int), j ≤ 8 ∧ v5 = .int .i64 (j : Int) ∧ v3 = .int .u64 q ∧ (0 ≤ q ∧ q < 18446744073709551616) ∧ Hid (q = (n + 9223372036854775808) / 256 ^ j) ∧ Hid (Below w.heap.size w wr) ∧ Hid ((Kd.int .u8).R 5 wr w.heap.size (fun _ => True) v4 (tailBytes (n + 9223372036854775808) j))) (fun _ _ v5 _ => (8 - intOf v5).toNat)
  case atStart =>
    refine ⟨0, n + 9223372036854775808, by omega, rfl, ?_, by omega, Lib.hid (by simp), HB0, Lib.hid (Kd.R_nil _ _ _ _ _)⟩
    congr 1
    simp [IntKind.wrap, IntKind.bits, IntKind.signed]
    omega
  case round =>
    obtain ⟨j, q, hj, rfl, rfl, ⟨hq0, hq1⟩, HQ, HB, HR⟩ := hrel
    by_cases hlt : j < 8
    · have e1 : (j : Int) < 8 := by omega
      have HT := Lib.hid (tailBytes_step (n + 9223372036854775808) j hlt)
      have hl8 := tailBytes_length (n + 9223372036854775808) j
      obtain ⟨A4, c4, rfl, hle4, hC4⟩ := Kd.R_reads HR.out
      obtain ⟨v2, w2, hr2, hR2, hb2, -, -⟩ := run_app_row (ty := 46) (R_box1 (W := wr) (T := 5) (q % 256) .u8 HB.out.size) (Kd.C_below hC4 (below_al wr (.cells #[.int .u8 (q % 256)] 5))) Try.underlying46 info_u8 rfl (by decide) (fun _ _ => trivial) (by have := HB.out.size; simp; omega) (by simp; omega)
      have HR2 := Lib.hid hR2
      have HB2 := Lib.hid ((keepB0 (below_al _ _) HB.out).trans hb2)
      clear hR2 hb2
      go_wp2_with (at_builtin; refine list_app rfl rfl rfl rfl hr2 ?_)
      go_roundw
      case rel =>
        refine ⟨j + 1, q / 256, by omega, by go_num, ?_, by omega, Lib.hid ?_, HB2, Lib.hid ?_⟩
        · congr 1 <;> (try omega)
        · rw [HQ.out]; exact div_step _ _
        · rw [HT.out, ← HQ.out]; exact HR2.out
      case measure => simp [intOf]; omega
    · have e1 : ¬ (j : Int) < 8 := by omega
      obtain rfl : j = 8 := by omega
      obtain ⟨A4, c4, rfl, hle4, hC4⟩ := Kd.R_reads HR.out
      obtain ⟨v2, w2, hr2, hR2, hb2, -, -⟩ := run_app_row (ty := 46) (R_box1 (W := wr) (T := 5) 1 .u8 HB.out.size) (Kd.C_below hC4 (below_al wr (.cells #[.int .u8 1] 5))) Try.underlying46 info_u8 rfl (by decide) (fun _ _ => trivial) (by have := HB.out.size; simp; omega) (by simp [tailBytes])
      have HR2 := Lib.hid hR2
      have HB2 := Lib.hid ((keepB0 (below_al _ _) HB.out).trans hb2)
      clear hR2 hb2
      go_wp2_with (at_builtin; refine list_app rfl rfl rfl rfl hr2 ?_)
      go_ret
      exact ⟨_, rfl, HR2.out, HB2.out⟩

set_option maxHeartbeats 4000000 in
set_option maxRecDepth 100000 in
theorem ref02_Bytes_text (n : Int) (s : ByteArray) (w : World) (hs : (s.size : Int) ≤ 200) :
    Calls Try.prog 23 #[.agg #[.int .i64 2, .int .i64 n, .string s]] w (RetRow w (2 :: (esc (bytesOf s) ++ [0, 0]))) := by
  go_enter Try.func23, Try.ntmps23
  go_wp2_with fail
  have HB0 := Lib.hid (below_al w (.cells #[.int .i64 2, .int .i64 n, .string s] 42))
  have HK0 := Lib.hid (blk_new w #[.int .i64 2, .int .i64 n, .string s] 42)
  go_loopw [6, 7] (fun v6 v7 wr => ∃ (k : Nat), k ≤ s.size ∧ v7 = .int .i64 k ∧ Hid (Below w.heap.size w wr) ∧ Hid (Blk wr w.heap.size #[.int .i64 2, .int .i64 n, .string s] 42) ∧ Hid ((Kd.int .u8).R 5 wr w.heap.size (fun _ => True) v6 (2 :: esc ((bytesOf s).take k)))) (fun _ v7 _ => s.size - (intOf v7).toNat)
  case atStart => exact ⟨0, by omega, rfl, Lib.hid (keepB0 (below_al _ _) HB0.out), Lib.hid (blk_alloc HK0.out _), Lib.hid (R_box1g (by simp) 2 .u8 HB0.out.size)⟩
  case round =>
    obtain ⟨k, hk, rfl, HB, HK, HR⟩ := hrel
    have hc2 : wr.cell? ⟨w.heap.size, 2, none⟩ = some (.string s) := blk_cell HK.out 2
    by_cases hlt : k < s.size
    · have hlt2 : (k : Int) < (s.size : Int) := by omega
      have HT := Lib.hid (bytesOf_drop s k hlt)
      have hl1 := esc_length ((bytesOf s).take k)
      have hl2 := List.length_take_le k (bytesOf s)
      by_cases hz : ((s[k]'hlt).toNat : Int) = 0
      · have HE := Lib.hid (esc_zero _ hz)
        obtain ⟨v2, w2, hr2, hR2, hb2, hg2, -⟩ := run_app_row (ty := 46) (A := some ⟨wr.heap.size, 0, none⟩) (m := 2) (c := 2) (Kd.R_alloc HR.out (.cells (encs (Value.int .u8) [0, 255]).toArray 5)) (C_boxes (W := wr) (T := 5) [0, 255] .u8 (by simp)) Try.underlying46 info_u8 rfl (by decide) (fun _ _ => trivial) (by have := HB.out.size; simp; omega) (by simp; omega)
        have HK2 := Lib.hid (blk_grown (blk_alloc HK.out (.cells (encs (Value.int .u8) [0, 255]).toArray 5)) (Kd.R_alloc HR.out (.cells (encs (Value.int .u8) [0, 255]).toArray 5)) hg2 (by decide))
        have HR2 := Lib.hid hR2
        have HB2 := Lib.hid ((keepB0 (below_al _ _) HB.out).trans hb2)
        clear hR2 hb2 hg2 HR
        go_wp2_with (at_builtin; refine list_app rfl rfl rfl rfl hr2 ?_)
        go_roundw
        case rel =>
          refine ⟨k + 1, by omega, by go_num, HB2, HK2, Lib.hid ?_⟩
          rw [HT.out, esc_append, HE.out]
          exact HR2.out
        case measure => simp [intOf]; omega
      · have HE := Lib.hid (esc_one _ hz)
        go_wp2_with (at_builtin; (refine app_one HR.out info_u8 Try.underlying46 (M_int _) (fun _ _ => trivial) HB.out.size ?aL rfl (by decide) (by decide) rfl rfl rfl rfl ?_); (case aL => simp; omega); intro v2 w2 hR2 hb2 hg2 hat2; have HK2 := Lib.hid (blk_grown HK.out HR.out hg2 (by decide)); have HR2 := Lib.hid hR2; have HB2 := Lib.hid (HB.out.trans hb2); clear hR2 hg2 HR)
        go_roundw
        case rel =>
          refine ⟨k + 1, by omega, by go_num, HB2, HK2, Lib.hid ?_⟩
          rw [HT.out, esc_append, HE.out]
          have := HR2.out
          simpa using this
        case measure => simp [intOf]; omega
    · have hlt2 : ¬ (k : Int) < (s.size : Int) := by omega
      have HF := HR.out
      rw [List.take_of_length_le (by rw [bytesOf_length]; omega)] at HF
      obtain ⟨v2, w2, hr2, hR2, hb2, -, -⟩ := run_app_row (ty := 46) (A := some ⟨wr.heap.size, 0, none⟩) (m := 2) (c := 2) (Kd.R_alloc HF (.cells (encs (Value.int .u8) [0, 0]).toArray 5)) (C_boxes (W := wr) (T := 5) [0, 0] .u8 (by simp)) Try.underlying46 info_u8 rfl (by decide) (fun _ _ => trivial) (by have := HB.out.size; simp; omega) (by have := esc_length (bytesOf s); rw [bytesOf_length] at this; simp; omega)
      have HR2 := Lib.hid hR2
      have HB2 := Lib.hid ((keepB0 (below_al _ _) HB.out).trans hb2)
      clear hR2 hb2 HF
      go_wp2_with (at_builtin; refine list_app rfl rfl rfl rfl hr2 ?_)
      go_ret
      exact ⟨_, rfl, HR2.out, HB2.out⟩

theorem valOk_parts {k n : Int} {s : ByteArray} (h : valOk k n s = true) : (k = 1 ∧ s.toList.isEmpty = true) ∨ (k = 2 ∧ n = 0 ∧ (s.size : Int) ≤ 200) := by
  simp only [valOk, Bool.or_eq_true, Bool.and_eq_true, beq_iff_eq, decide_eq_true_eq] at h
  rcases h with h | ⟨⟨h1, h2⟩, h3⟩
  · exact .inl h
  · exact .inr ⟨h1, h2, h3⟩
theorem ref02_Bytes_calls (k n : Int) (s : ByteArray) (w : World) (h0 : -9223372036854775808 ≤ n) (h1 : n ≤ 9223372036854775807) (h : valOk k n s = true) :
    Calls Try.prog 23 #[.agg #[.int .i64 k, .int .i64 n, .string s]] w (RetRow w (valBytes k n s)) := by
  rcases valOk_parts h with ⟨rfl, _⟩ | ⟨rfl, _, h2⟩
  · exact ref02_Bytes_int n s w h0 h1
  · exact ref02_Bytes_text n s w h2

/-- How a value stands to another. -/
def cmpV (k1 n1 : Int) (s1 : ByteArray) (k2 n2 : Int) (s2 : ByteArray) : Int :=
  if k1 = k2 then (if n1 = n2 then ord (bytesOf s1) (bytesOf s2) else if n1 < n2 then -1 else 1) else if k1 < k2 then -1 else 1

set_option maxHeartbeats 4000000 in
theorem ref02_Compare_calls (k1 n1 k2 n2 : Int) (s1 s2 : ByteArray) (w : World) (h1 : s1.size ≤ 140737488355328) (h2 : s2.size ≤ 140737488355328) :
    Calls Try.prog 24 #[.agg #[.int .i64 k1, .int .i64 n1, .string s1], .agg #[.int .i64 k2, .int .i64 n2, .string s2]] w fun e w' => e = .returned (.int .i64 (cmpV k1 n1 s1 k2 n2 s2)) ∧ Below w.heap.size w w' := by
  have HB0 := Lib.hid (keepB0 (below_al _ (.cells #[.int .i64 k2, .int .i64 n2, .string s2] 42)) (below_al w (.cells #[.int .i64 k1, .int .i64 n1, .string s1] 42)))
  by_cases hk : k1 = k2
  · subst hk
    by_cases hn : n1 = n2
    · subst hn
      go_enter Try.func24, Try.ntmps24
      go_wp2_with (go_at_call 26; refine (ref02_Order_calls _ _ _ h1 h2).mono ?_; rintro e w' ⟨rfl, hq⟩)
      go_ret
      exact ⟨ret_int (by simp [cmpV]), keepB0 (quiet_below hq _) HB0.out⟩
    · rcases Int.lt_or_gt_of_ne hn with hd | hd
      · have hd1 : decide (n1 < n2) = true := decide_eq_true hd
        go_enter Try.func24, Try.ntmps24
        go_wp2_with (go_at_call 73; refine (ref02_sign_calls _ _).mono ?_; rintro e w' ⟨rfl, rfl⟩)
        all_goals
          go_ret
          exact ⟨ret_int (by simp [cmpV, hn]; omega), HB0.out⟩
      · have hd1 : decide (n1 < n2) = false := decide_eq_false (by omega)
        go_enter Try.func24, Try.ntmps24
        go_wp2_with (go_at_call 73; refine (ref02_sign_calls _ _).mono ?_; rintro e w' ⟨rfl, rfl⟩)
        all_goals
          go_ret
          exact ⟨ret_int (by simp [cmpV, hn]; omega), HB0.out⟩
  · rcases Int.lt_or_gt_of_ne hk with hd | hd
    · have hd1 : decide (k1 < k2) = true := decide_eq_true hd
      go_enter Try.func24, Try.ntmps24
      go_wp2_with (go_at_call 73; refine (ref02_sign_calls _ _).mono ?_; rintro e w' ⟨rfl, rfl⟩)
      all_goals
        go_ret
        exact ⟨ret_int (by simp [cmpV, hk]; omega), HB0.out⟩
    · have hd1 : decide (k1 < k2) = false := decide_eq_false (by omega)
      go_enter Try.func24, Try.ntmps24
      go_wp2_with (go_at_call 73; refine (ref02_sign_calls _ _).mono ?_; rintro e w' ⟨rfl, rfl⟩)
      all_goals
        go_ret
        exact ⟨ret_int (by simp [cmpV, hk]; omega), HB0.out⟩
end Go.Proofs.Ytonbnlfijmapfaa
