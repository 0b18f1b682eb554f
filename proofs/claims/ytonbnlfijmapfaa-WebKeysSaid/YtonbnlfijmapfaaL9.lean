/- value.Bytes: what it answers at every value. No condition but on sizes. -/
import Derived.Test.YtonbnlfijmapfaaL6
import Derived.Test.YtonbnlfijmapfaaP0
namespace Go.Proofs.Ytonbnlfijmapfaa
open Go.RowKit Go.Shelf Go.Proofs.YtonbnlfijmapfaaW.PrintWords
set_option linter.unusedVariables false
set_option linter.unusedSimpArgs false

theorem ta_int (n : Int) (W : World) : (Instr.typeAssert (.iface 3 (.int .i64 n)) 20 3 true).run Try.prog W = .ok (.tuple #[.int .i64 n, .bool true]) W := by kernel_rfl
theorem ta_int_no (s : ByteArray) (W : World) : (Instr.typeAssert (.iface 9 (.string s)) 20 3 true).run Try.prog W = .ok (.tuple #[.int .i64 0, .bool false]) W := by kernel_rfl
theorem ta_string (s : ByteArray) (W : World) : (Instr.typeAssert (.iface 9 (.string s)) 20 9 true).run Try.prog W = .ok (.tuple #[.string s, .bool true]) W := by kernel_rfl
theorem ta_int_nil (W : World) : (Instr.typeAssert .nilIface 20 3 true).run Try.prog W = .ok (.tuple #[.int .i64 0, .bool false]) W := by kernel_rfl
theorem ta_string_nil (W : World) : (Instr.typeAssert .nilIface 20 9 true).run Try.prog W = .ok (.tuple #[.string ⟨#[]⟩, .bool false]) W := by kernel_rfl

/-- A slice of bytes, of the call's own, and an error. -/
def RetBytes (w : World) (l : List Int) (e : Ending) (w' : World) : Prop := ∃ v, e = .returned (.tuple #[v, .int .i64 0]) ∧ (Kd.int .u8).R 5 w' w.heap.size (fun _ => True) v l ∧ Below w.heap.size w w'

set_option maxHeartbeats 2000000 in
set_option maxRecDepth 100000 in
theorem value_Bytes_int (n : Int) (s : ByteArray) (w : World) (h0 : -9223372036854775808 ≤ n) (h1 : n ≤ 9223372036854775807) (hs : s.toList.isEmpty = true) :
    Calls Try.prog 72 #[.agg #[.int .i64 1, .int .i64 n, .string s]] w (RetBytes w (intBytes n)) := by
  have ht : thingV 1 n s = .iface 3 (.int .i64 n) := by unfold thingV; simp [hs]
  have q1 := ta_int n
  have HX := Lib.hid (xor_top n h0 h1)
  go_enter Try.func72, Try.ntmps72
  go_wp2_with (go_at_call 105; refine (value_thing_calls _ _ _ _).mono ?_; rw [ht]; rintro e w1 ⟨rfl, hb1⟩)
  have HB1 := Lib.hid (keepB0 hb1 (below_al w _)); clear hb1
  go_loopw [7, 8] (fun v7 v8 wr => ∃ (j : Nat), j ≤ 8 ∧ v8 = .int .i64 (56 - 8 * (j : Int)) ∧ Hid (Below w.heap.size w wr) ∧ Hid ((Kd.int .u8).R 5 wr w.heap.size (fun _ => True) v7 ((intBytes n).take (j + 1)))) (fun _ v8 _ => (intOf v8 + 8).toNat)
  case atStart => exact ⟨0, by omega, rfl, Lib.hid (keepB0 (below_al _ _) HB1.out), Lib.hid (R_box1 1 .u8 HB1.out.size)⟩
  case round =>
    obtain ⟨j, hj, rfl, HB, HR⟩ := hrel
    by_cases hlt : j < 8
    · have e1 : (0 : Int) ≤ 56 - 8 * (j : Int) := by omega
      have HT := Lib.hid (intBytes_take n j hlt)
      go_wp2_with (at_builtin; (refine app_one HR.out info_u8 Try.underlying46 (M_int _) (fun _ _ => trivial) HB.out.size ?aL rfl (by decide) (by decide) rfl rfl rfl rfl ?_); (case aL => have := List.length_take_le (j + 1) (intBytes n); omega); intro v2 w2 hR2 hb2 hg2 hat2)
      go_roundw
      case rel =>
        refine ⟨j + 1, by omega, by go_num, Lib.hid (HB.out.trans hb2), Lib.hid ?_⟩
        rw [HT.out]
        have e : u8z (n + 9223372036854775808) j = bits BinOp.xor IntKind.u64 (IntKind.u64.wrap n) 9223372036854775808 / 2 ^ (56 - 8 * j) % 256 := by rw [HX.out]; rfl
        rw [e]; exact hR2
      case measure => simp [intOf]; omega
    · have e1 : 56 - 8 * (j : Int) < 0 := by omega
      go_wp2
      go_ret2
      refine ⟨_, rfl, ?_, HB.out⟩
      have := HR.out
      rwa [List.take_of_length_le (by rw [intBytes_length]; omega)] at this

set_option maxHeartbeats 2000000 in
set_option maxRecDepth 100000 in
theorem value_Bytes_no (k n : Int) (s : ByteArray) (w : World) (h : valOk k n s = false) :
    Calls Try.prog 72 #[.agg #[.int .i64 k, .int .i64 n, .string s]] w fun e w' => e = .returned (.tuple #[.slice none 0 0, .int .i64 22]) ∧ Below w.heap.size w w' := by
  have ht : thingV k n s = .nilIface := by
    rcases thingV_cases k n s with h2 | h2 | h2
    · exact h2.2
    · rw [h] at h2; cases h2.1
    · rw [h] at h2; cases h2.1
  have q1 := ta_int_nil
  have q2 := ta_string_nil
  go_enter Try.func72, Try.ntmps72
  go_wp2_with (go_at_call 105; refine (value_thing_calls _ _ _ _).mono ?_; rw [ht]; rintro e w1 ⟨rfl, hb1⟩)
  go_ret2
  exact ⟨rfl, keepB0 hb1 (below_al w _)⟩

/-- The letters from a place on. -/
theorem bytesOf_drop (s : ByteArray) (k : Nat) (h : k < s.size) : (bytesOf s).take (k + 1) = (bytesOf s).take k ++ [((s[k]'h).toNat : Int)] := by
  have hl : k < (bytesOf s).length := by rw [bytesOf_length]; exact h
  rw [List.take_succ_eq_append_getElem hl]
  congr 1
  simp [bytesOf]
  rfl

theorem esc_zero (x : Int) (h : x = 0) : esc [x] = [0, 255] := by subst h; rfl
theorem esc_one (x : Int) (h : ¬ x = 0) : esc [x] = [x] := by simp [esc, h]

set_option maxHeartbeats 4000000 in
set_option maxRecDepth 100000 in
theorem value_Bytes_text (s : ByteArray) (w : World) (hs : (s.size : Int) ≤ 200) :
    Calls Try.prog 72 #[.agg #[.int .i64 2, .int .i64 0, .string s]] w (RetBytes w (2 :: (esc (bytesOf s) ++ [0, 0]))) := by
  have ht : thingV 2 0 s = .iface 9 (.string s) := by unfold thingV; simp; omega
  have q1 := ta_int_no s
  have q2 := ta_string s
  go_enter Try.func72, Try.ntmps72
  go_wp2_with (go_at_call 105; refine (value_thing_calls _ _ _ _).mono ?_; rw [ht]; rintro e w1 ⟨rfl, hb1⟩)
  have HB1 := Lib.hid (keepB0 hb1 (below_al w _)); clear hb1
  go_loopw [11, 46] (fun v11 v46 wr => ∃ (k : Nat), k ≤ s.size ∧ v46 = .int .i64 k ∧ Hid (Below w.heap.size w wr) ∧ Hid ((Kd.int .u8).R 5 wr w.heap.size (fun _ => True) v11 (2 :: esc ((bytesOf s).take k)))) (fun _ v46 _ => s.size - (intOf v46).toNat)
  case atStart => exact ⟨0, by omega, rfl, Lib.hid (keepB0 (below_al _ _) HB1.out), Lib.hid (R_box1 2 .u8 HB1.out.size)⟩
  case round =>
    obtain ⟨k, hk, rfl, HB, HR⟩ := hrel
    by_cases hlt : k < s.size
    · have hlt2 : (k : Int) < (s.size : Int) := by omega
      have HT := Lib.hid (bytesOf_drop s k hlt)
      have hl1 := esc_length ((bytesOf s).take k)
      have hl2 := List.length_take_le k (bytesOf s)
      by_cases hz : ((s[k]'hlt).toNat : Int) = 0
      · have HE := Lib.hid (esc_zero _ hz)
        go_wp2_with (first
          | (at_builtin; (refine app_one HR.out info_u8 Try.underlying46 (M_int _) (fun _ _ => trivial) HB.out.size ?aL rfl (by decide) (by decide) rfl rfl rfl rfl ?_); (case aL => simp; omega); intro v2 w2 hR2 hb2 hg2 hat2; have HR2 := Lib.hid hR2; have HB2 := Lib.hid (HB.out.trans hb2); clear hR2 HR)
          | (at_builtin; (refine app_one HR2.out info_u8 Try.underlying46 (M_int _) (fun _ _ => trivial) HB2.out.size ?aL rfl (by decide) (by decide) rfl rfl rfl rfl ?_); (case aL => simp; omega); intro v3 w3 hR3 hb3 hg3 hat3; have HR3 := Lib.hid hR3; clear hR3 HR2))
        go_roundw
        case rel =>
          refine ⟨k + 1, by omega, by go_num, Lib.hid (HB2.out.trans hb3), Lib.hid ?_⟩
          rw [HT.out, esc_append, HE.out]
          have := HR3.out
          simpa using this
        case measure => simp [intOf]; omega
      · have HE := Lib.hid (esc_one _ hz)
        go_wp2_with (at_builtin; (refine app_one HR.out info_u8 Try.underlying46 (M_int _) (fun _ _ => trivial) HB.out.size ?aL rfl (by decide) (by decide) rfl rfl rfl rfl ?_); (case aL => simp; omega); intro v2 w2 hR2 hb2 hg2 hat2; have HR2 := Lib.hid hR2; have HB2 := Lib.hid (HB.out.trans hb2); clear hR2 HR)
        go_roundw
        case rel =>
          refine ⟨k + 1, by omega, by go_num, HB2, Lib.hid ?_⟩
          rw [HT.out, esc_append, HE.out]
          have := HR2.out
          simpa using this
        case measure => simp [intOf]; omega
    · have hlt2 : ¬ (k : Int) < (s.size : Int) := by omega
      have HF := HR.out
      rw [List.take_of_length_le (by rw [bytesOf_length]; omega)] at HF
      obtain ⟨v2, w2, hr2, hR2, hb2, -, -⟩ := run_app_row (ty := 46) (A := some ⟨wr.heap.size, 0, none⟩) (m := 2) (c := 2) (Kd.R_alloc HF (.cells (encs (Value.int .u8) [0, 0]).toArray 5)) (C_boxes (W := wr) (T := 5) [0, 0] .u8 (by simp)) Try.underlying46 info_u8 rfl (by decide) (fun _ _ => trivial) (by have := HB.out.size; simp; omega) (by have := esc_length (bytesOf s); rw [bytesOf_length] at this; simp; omega)
      have HR2 := Lib.hid hR2
      have HB2 := Lib.hid ((keepB0 (below_al _ _) HB.out).trans hb2)
      clear hR2 hb2 HF
      go_wp2_with (at_builtin; refine list_app rfl rfl rfl rfl hr2 ?_)
      go_ret2
      exact ⟨_, rfl, HR2.out, HB2.out⟩

/-- A value's bytes. -/
def valBytes (k n : Int) (s : ByteArray) : List Int := if k = 1 then intBytes n else 2 :: (esc (bytesOf s) ++ [0, 0])
theorem value_Bytes_calls (k n : Int) (s : ByteArray) (w : World) (h0 : -9223372036854775808 ≤ n) (h1 : n ≤ 9223372036854775807) (h : valOk k n s = true) :
    Calls Try.prog 72 #[.agg #[.int .i64 k, .int .i64 n, .string s]] w (RetBytes w (valBytes k n s)) := by
  rcases thingV_cases k n s with h2 | h2 | h2
  · rw [h] at h2; cases h2.1
  · obtain ⟨_, rfl, h3, _⟩ := h2
    exact value_Bytes_int n s w h0 h1 h3
  · obtain ⟨_, rfl, rfl, h3, _⟩ := h2
    exact value_Bytes_text s w h3
end Go.Proofs.Ytonbnlfijmapfaa
