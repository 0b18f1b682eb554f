/- cobwebref21.Five, web.Span. -/
import Derived.Test.YtonbnlfijmapfaaL23
import Derived.Test.YtonbnlfijmapfaaL11
namespace Go.Proofs.Ytonbnlfijmapfaa
open Go.RowKit Go.Shelf Go.Proofs.YtonbnlfijmapfaaW.PrintWords
set_option linter.unusedVariables false
set_option linter.unusedSimpArgs false

theorem strOfNums_cons (x : Int) (l : List Int) : strOfNums [x] ++ strOfNums l = strOfNums (x :: l) := by
  simp only [strOfNums, List.map_cons, List.map_nil]
  apply ByteArray.ext
  simp
def tailFive (n : Int) (j : Nat) : List Int := (fiveBytes n).drop (5 - j)
theorem tailFive_step (n : Int) (j : Nat) (h : j < 5) : tailFive n (j + 1) = (n / 256 ^ j % 256) :: tailFive n j := by
  have : j = 0 ∨ j = 1 ∨ j = 2 ∨ j = 3 ∨ j = 4 := by omega
  rcases this with rfl | rfl | rfl | rfl | rfl
  · simp [tailFive, fiveBytes]
  · rfl
  · rfl
  · rfl
  · rfl
set_option maxHeartbeats 2000000 in
set_option maxRecDepth 100000 in
theorem ref21_Five_calls (n : Int) (w : World) (h0 : 0 ≤ n) (h1 : n < 1099511627776) :
    Calls Try.prog 25 #[.int .i64 n] w fun e w' => e = .returned (.string (strOfNums (fiveBytes n))) ∧ Below w.heap.size w w' := by
  have q := str_box1
  have HN := Lib.hid (And.intro h0 h1)
  go_enter Try.func25, Try.ntmps25
  go_wp2
  go_loopw [0, 3, 4] (fun v0 v3 v4 wr => ∃ (j : Nat) (u : Int), j ≤ 5 ∧ v4 = .int .i64 (j : Int) ∧ v0 = .int .i64 u ∧ (0 ≤ u ∧ u < 1099511627776) ∧ Hid (u = n / 256 ^ j) ∧ v3 = .string (strOfNums (tailFive n j)) ∧ Hid (Below w.heap.size w wr)) (fun _ _ v4 _ => (5 - intOf v4).toNat)
  case atStart => exact ⟨0, n, by omega, rfl, rfl, ⟨h0, h1⟩, Lib.hid (by simp), rfl, Lib.hid (Below.refl _ _)⟩
  case round =>
    obtain ⟨j, u, hj, rfl, rfl, ⟨hu0, hu1⟩, HU, rfl, HB⟩ := hrel
    by_cases hlt : j < 5
    · have e1 : (j : Int) < 5 := by omega
      have HT := Lib.hid (tailFive_step n j hlt)
      have hz : ByteArray.size (strOfNums (tailFive n j)) ≤ 5 := by rw [strOfNums_size]; simp [tailFive, fiveBytes]
      have hz1 := strOfNums_size [u % 256]
      go_wp2
      go_roundw
      case rel =>
        refine ⟨j + 1, u / 256, by omega, by go_num, rfl, by omega, Lib.hid (by rw [HU.out]; exact div_step _ _), ?_, Lib.hid (keepB0 (below_al _ _) HB.out)⟩
        rw [HT.out, ← HU.out]; exact congrArg Value.string (strOfNums_cons _ _)
      case measure => simp [intOf]; omega
    · have e1 : ¬ (j : Int) < 5 := by omega
      obtain rfl : j = 5 := by omega
      go_wp2
      go_ret
      exact ⟨rfl, HB.out⟩

/-- What lies behind a span's upper end. -/
def topTail : ByteArray := ⟨#[255, 255, 255, 255, 255, 0]⟩
set_option maxHeartbeats 2000000 in
set_option maxRecDepth 100000 in
theorem web_Span_no (k1 n1 k2 n2 : Int) (s1 s2 : ByteArray) (w : World) (h1 : -9223372036854775808 ≤ n1 ∧ n1 ≤ 9223372036854775807) (h2 : -9223372036854775808 ≤ n2 ∧ n2 ≤ 9223372036854775807) (hn : valOk k1 n1 s1 = false ∨ valOk k1 n1 s1 = true ∧ valOk k2 n2 s2 = false) :
    Calls Try.prog 21 #[.agg #[.int .i64 k1, .int .i64 n1, .string s1], .agg #[.int .i64 k2, .int .i64 n2, .string s2]] w fun e w' => e = .returned (.tuple #[.string ⟨#[]⟩, .string ⟨#[]⟩, .int .i64 22]) ∧ Below w.heap.size w w' := by
  have HB0 := Lib.hid (keepB0 (below_al _ (.cells #[.int .i64 k2, .int .i64 n2, .string s2] 42)) (below_al w (.cells #[.int .i64 k1, .int .i64 n1, .string s1] 42)))
  have HK0 := Lib.hid (blk_new (w.alloc (.cells #[.int .i64 k1, .int .i64 n1, .string s1] 42)) #[.int .i64 k2, .int .i64 n2, .string s2] 42)
  have H1 := Lib.hid h1; clear h1
  have H2 := Lib.hid h2; clear h2
  have p1 : True := trivial
  rcases hn with hn | ⟨hn, hn2⟩
  · cases hv : valOk k2 n2 s2 with
    | false =>
      go_enter Try.func21, Try.ntmps21
      go_wp2_with (first
        | (go_at_call 72; clear p1; refine (value_Bytes_no k1 n1 s1 _ hn).mono ?_; rintro e w1 ⟨rfl, hb1⟩; have HB1 := Lib.hid (keepB0 hb1 HB0.out); have K1 : w1.cell? ⟨w.heap.size + 1, 0, none⟩ = some (.int .i64 k2) ∧ w1.cell? ⟨w.heap.size + 1, 1, none⟩ = some (.int .i64 n2) ∧ w1.cell? ⟨w.heap.size + 1, 2, none⟩ = some (.string s2) := (fun K => by simp only [World.size_alloc] at K; exact ⟨blk_cell K 0, blk_cell K 1, blk_cell K 2⟩) (blk_below hb1 HK0.out); clear hb1; obtain ⟨K1, K2, K3⟩ := K1)
        | (go_at_call 72; refine (value_Bytes_no k2 n2 s2 _ hv).mono ?_; rintro e w2 ⟨rfl, hb2⟩; have HB2 := Lib.hid (keepB0 hb2 HB1.out); clear hb2))
      refine bodyPost_ret (v := .tuple #[.string ⟨#[]⟩, .string ⟨#[]⟩, .int .i64 22]) (by simp [results, Try.results21, go_sem]) rfl ⟨rfl, HB2.out⟩
    | true =>
      go_enter Try.func21, Try.ntmps21
      go_wp2_with (first
        | (go_at_call 72; clear p1; refine (value_Bytes_no k1 n1 s1 _ hn).mono ?_; rintro e w1 ⟨rfl, hb1⟩; have HB1 := Lib.hid (keepB0 hb1 HB0.out); have K1 : w1.cell? ⟨w.heap.size + 1, 0, none⟩ = some (.int .i64 k2) ∧ w1.cell? ⟨w.heap.size + 1, 1, none⟩ = some (.int .i64 n2) ∧ w1.cell? ⟨w.heap.size + 1, 2, none⟩ = some (.string s2) := (fun K => by simp only [World.size_alloc] at K; exact ⟨blk_cell K 0, blk_cell K 1, blk_cell K 2⟩) (blk_below hb1 HK0.out); clear hb1; obtain ⟨K1, K2, K3⟩ := K1)
        | (go_at_call 72; refine (value_Bytes_calls k2 n2 s2 _ H2.out.1 H2.out.2 hv).mono ?_; rintro e w2 ⟨v2, rfl, -, hb2⟩; have HB2 := Lib.hid (keepB0 hb2 HB1.out); clear hb2))
      refine bodyPost_ret (v := .tuple #[.string ⟨#[]⟩, .string ⟨#[]⟩, .int .i64 22]) (by simp [results, Try.results21, go_sem]) rfl ⟨rfl, HB2.out⟩
  · go_enter Try.func21, Try.ntmps21
    go_wp2_with (first
      | (go_at_call 72; clear p1; refine (value_Bytes_calls k1 n1 s1 _ H1.out.1 H1.out.2 hn).mono ?_; rintro e w1 ⟨v1, rfl, -, hb1⟩; have HB1 := Lib.hid (keepB0 hb1 HB0.out); have K1 : w1.cell? ⟨w.heap.size + 1, 0, none⟩ = some (.int .i64 k2) ∧ w1.cell? ⟨w.heap.size + 1, 1, none⟩ = some (.int .i64 n2) ∧ w1.cell? ⟨w.heap.size + 1, 2, none⟩ = some (.string s2) := (fun K => by simp only [World.size_alloc] at K; exact ⟨blk_cell K 0, blk_cell K 1, blk_cell K 2⟩) (blk_below hb1 HK0.out); clear hb1; obtain ⟨K1, K2, K3⟩ := K1)
      | (go_at_call 72; refine (value_Bytes_no k2 n2 s2 _ hn2).mono ?_; rintro e w2 ⟨rfl, hb2⟩; have HB2 := Lib.hid (keepB0 hb2 HB1.out); clear hb2))
    refine bodyPost_ret (v := .tuple #[.string ⟨#[]⟩, .string ⟨#[]⟩, .int .i64 22]) (by simp [results, Try.results21, go_sem]) rfl ⟨rfl, HB2.out⟩

set_option maxHeartbeats 2000000 in
set_option maxRecDepth 100000 in
theorem web_Span_yes (k1 n1 k2 n2 : Int) (s1 s2 : ByteArray) (w : World) (h1 : -9223372036854775808 ≤ n1 ∧ n1 ≤ 9223372036854775807) (h2 : -9223372036854775808 ≤ n2 ∧ n2 ≤ 9223372036854775807) (hn : valOk k1 n1 s1 = true) (hn2 : valOk k2 n2 s2 = true) :
    Calls Try.prog 21 #[.agg #[.int .i64 k1, .int .i64 n1, .string s1], .agg #[.int .i64 k2, .int .i64 n2, .string s2]] w fun e w' => e = .returned (.tuple #[.string (strOfNums (valBytes k1 n1 s1)), .string (strOfNums (valBytes k2 n2 s2) ++ topTail), .int .i64 0]) ∧ Below w.heap.size w w' := by
  have HB0 := Lib.hid (keepB0 (below_al _ (.cells #[.int .i64 k2, .int .i64 n2, .string s2] 42)) (below_al w (.cells #[.int .i64 k1, .int .i64 n1, .string s1] 42)))
  have HK0 := Lib.hid (blk_new (w.alloc (.cells #[.int .i64 k1, .int .i64 n1, .string s1] 42)) #[.int .i64 k2, .int .i64 n2, .string s2] 42)
  have H1 := Lib.hid h1; clear h1
  have H2 := Lib.hid h2; clear h2
  have hvl := valBytes_length (k := k2) (n := n2) (s := s2) hn2
  have hvz := strOfNums_size (valBytes k2 n2 s2)
  have p1 : True := trivial
  go_enter Try.func21, Try.ntmps21
  go_wp2_with (first
    | (go_at_call 72; clear p1; refine (value_Bytes_calls k1 n1 s1 _ H1.out.1 H1.out.2 hn).mono ?_; rintro e w1 ⟨v1, rfl, hR1, hb1⟩; have HB1 := Lib.hid (keepB0 hb1 HB0.out); have K1 : w1.cell? ⟨w.heap.size + 1, 0, none⟩ = some (.int .i64 k2) ∧ w1.cell? ⟨w.heap.size + 1, 1, none⟩ = some (.int .i64 n2) ∧ w1.cell? ⟨w.heap.size + 1, 2, none⟩ = some (.string s2) := (fun K => by simp only [World.size_alloc] at K; exact ⟨blk_cell K 0, blk_cell K 1, blk_cell K 2⟩) (blk_below hb1 HK0.out); clear hb1; have HR1 := Lib.hid hR1; clear hR1; obtain ⟨K1, K2, K3⟩ := K1)
    | (go_at_call 72; refine (value_Bytes_calls k2 n2 s2 _ H2.out.1 H2.out.2 hn2).mono ?_; rintro e w2 ⟨v2, rfl, hR2, hb2⟩; have q1 := fun n => str_R HR1.out (pw_below_drewN hb2 n); have q2 := fun n => str_R hR2 (pw_below_drewN (Below.refl _ _) n); have HB2 := Lib.hid (keepB0 hb2 HB1.out); clear hb2 hR2))
  go_big_quiet (fail)
  go_wp2
  refine bodyPost_ret (v := .tuple #[.string (strOfNums (valBytes k1 n1 s1)), .string (strOfNums (valBytes k2 n2 s2) ++ topTail), .int .i64 0]) (by simp [results, Try.results21, go_sem, topTail]) rfl ⟨rfl, pw_below_drewN HB2.out _⟩
end Go.Proofs.Ytonbnlfijmapfaa
