/- cobweblaw21.WebSpans: true, whatever comes in. -/
import Derived.Test.YtonbnlfijmapfaaL17
import Derived.Test.YtonbnlfijmapfaaP3
namespace Go.Proofs.Ytonbnlfijmapfaa
open Go.RowKit Go.Shelf Go.Proofs.YtonbnlfijmapfaaW.PrintWords
set_option linter.unusedVariables false
set_option linter.unusedSimpArgs false

/-- The three values' variables, in memory. -/
def Bx3 (w0 : World) (a b c : Array Value) (T : Nat) (W : World) : Prop := Blk W w0.heap.size a T ∧ Blk W (w0.heap.size + 1) b T ∧ Blk W (w0.heap.size + 2) c T ∧ Below w0.heap.size w0 W
theorem Bx3.keep {w0 W W2 : World} {a b c : Array Value} {T : Nat} (h : Bx3 w0 a b c T W) (hb : Below W.heap.size W W2) : Bx3 w0 a b c T W2 := ⟨blk_below hb h.1, blk_below hb h.2.1, blk_below hb h.2.2.1, keepB0 hb h.2.2.2⟩
theorem Bx3.new (w0 : World) (a b c : Array Value) (T : Nat) : Bx3 w0 a b c T (((w0.alloc (.cells a T)).alloc (.cells b T)).alloc (.cells c T)) := by
  refine ⟨blk_alloc (blk_alloc (blk_new _ _ _) _) _, ?_, ?_, keepB0 (below_al _ _) (keepB0 (below_al _ _) (below_al _ _))⟩
  · have := blk_alloc (blk_new (w0.alloc (.cells a T)) b T) (.cells c T)
    simpa using this
  · have := blk_new ((w0.alloc (.cells a T)).alloc (.cells b T)) c T
    simpa using this
theorem Bx3.cells {w0 W : World} {a0 a1 a2 b0 b1 b2 c0 c1 c2 : Value} {T : Nat} (h : Bx3 w0 #[a0, a1, a2] #[b0, b1, b2] #[c0, c1, c2] T W) :
    W.cell? ⟨w0.heap.size, 0, none⟩ = some a0 ∧ W.cell? ⟨w0.heap.size, 1, none⟩ = some a1 ∧ W.cell? ⟨w0.heap.size, 2, none⟩ = some a2 ∧ W.cell? ⟨w0.heap.size + 1, 0, none⟩ = some b0 ∧ W.cell? ⟨w0.heap.size + 1, 1, none⟩ = some b1 ∧ W.cell? ⟨w0.heap.size + 1, 2, none⟩ = some b2 ∧ W.cell? ⟨w0.heap.size + 2, 0, none⟩ = some c0 ∧ W.cell? ⟨w0.heap.size + 2, 1, none⟩ = some c1 ∧ W.cell? ⟨w0.heap.size + 2, 2, none⟩ = some c2 :=
  ⟨blk_cell h.1 0, blk_cell h.1 1, blk_cell h.1 2, blk_cell h.2.1 0, blk_cell h.2.1 1, blk_cell h.2.1 2, blk_cell h.2.2.1 0, blk_cell h.2.2.1 1, blk_cell h.2.2.1 2⟩

def rng (n : Int) : Prop := -9223372036854775808 ≤ n ∧ n ≤ 9223372036854775807

set_option maxRecDepth 100000 in
set_option maxHeartbeats 4000000 in
theorem law21_WebSpans_no (k n kl nl kh nh : Int) (s sl sh : ByteArray) (w : World) (h1 : rng nl) (h2 : rng nh) (hn : valOk kl nl sl = false ∨ valOk kl nl sl = true ∧ valOk kh nh sh = false) :
    Calls Try.prog 4 #[.agg #[.int .i64 k, .int .i64 n, .string s], .agg #[.int .i64 kl, .int .i64 nl, .string sl], .agg #[.int .i64 kh, .int .i64 nh, .string sh]] w fun e w' => e = .returned (.bool true) ∧ Below w.heap.size w w' := by
  have HN := Lib.hid (Bx3.new w #[.int .i64 k, .int .i64 n, .string s] #[.int .i64 kl, .int .i64 nl, .string sl] #[.int .i64 kh, .int .i64 nh, .string sh] 42)
  have HS := Lib.hid (fun W => web_Span_no kl nl kh nh sl sh W h1 h2 hn)
  clear h1 h2
  rcases hn with hn | ⟨hn, hn2⟩
  all_goals
    go_enter Try.func4, Try.ntmps4
    go_wp2_with (first
      | (go_at_call 15; refine (law21_awake_calls _).mono ?_; rintro e wa ⟨rfl, hb⟩; have HB := Lib.hid (HN.out.keep hb); clear hb HN; obtain ⟨x0, x1, x2, x3, x4, x5, x6, x7, x8⟩ := HB.out.cells)
      | (go_at_call 21; refine (HS.out _).mono ?_; rintro e wb ⟨rfl, hb⟩; replace HB := Lib.hid (HB.out.keep hb); clear hb; (try clear x0 x1 x2 x3 x4 x5 x6 x7 x8); obtain ⟨x0, x1, x2, x3, x4, x5, x6, x7, x8⟩ := HB.out.cells)
      | (go_at_call 22; refine (ref02_Right_calls _ _ _ _).mono ?_; rintro e wb ⟨rfl, hb⟩; replace HB := Lib.hid (HB.out.keep hb); clear hb; (try clear x0 x1 x2 x3 x4 x5 x6 x7 x8); obtain ⟨x0, x1, x2, x3, x4, x5, x6, x7, x8⟩ := HB.out.cells))
    go_ret
    exact ⟨rfl, HB.out.2.2.2⟩

theorem valOk_size {k n : Int} {s : ByteArray} (h : valOk k n s = true) : s.size ≤ 200 := by
  rcases valOk_parts h with ⟨_, e⟩ | ⟨_, _, e⟩
  · have h2 := bytesOf_length s
    rw [bytesOf_nil e] at h2
    simp at h2
    omega
  · omega
def ids5 : List Int := [0, 1, 255, 4294967296, 1099511627775]
theorem ids5_C (W : World) (g : Nat) (hg : g = W.heap.size) : (Kd.int .i64).C (W.alloc (.cells #[.int .i64 0, .int .i64 1, .int .i64 255, .int .i64 4294967296, .int .i64 1099511627775] 3)) (some ⟨g, 0, none⟩) 5 ids5 := C_boxesg hg ids5 .i64 (by simp [ids5])
theorem ids5_range (i : Nat) (h : i < 5) : 0 ≤ rd ids5 (i : Int) ∧ rd ids5 (i : Int) < 1099511627776 := by
  have : i = 0 ∨ i = 1 ∨ i = 2 ∨ i = 3 ∨ i = 4 := by omega
  rcases this with rfl | rfl | rfl | rfl | rfl <;> decide

theorem order_low (k1 n1 k2 n2 : Int) (s1 s2 : ByteArray) (id : Int) (W : World) (h1 : rng n1) (h2 : rng n2) (v1 : valOk k1 n1 s1 = true) (v2 : valOk k2 n2 s2 = true) (b : Bool) (hb : decide (0 ≤ cmpV k1 n1 s1 k2 n2 s2) = b) :
    Calls Try.prog 26 #[.string (strOfNums (valBytes k2 n2 s2)), .string (strOfNums (valBytes k1 n1 s1) ++ strOfNums (fiveBytes id))] W fun e w' => ∃ o : Int, e = .returned (.int .i64 o) ∧ decide (o ≤ 0) = b ∧ Quiet W w' := by
  have l1 := valBytes_length (k := k1) (n := n1) (s := s1) v1
  have l2 := valBytes_length (k := k2) (n := n2) (s := s2) v2
  have z1 := strOfNums_size (valBytes k1 n1 s1)
  have z2 := strOfNums_size (valBytes k2 n2 s2)
  have z3 := five_size id
  exact (ref02_Order_calls _ _ W (by omega) (by rw [ByteArray.size_append]; omega)).mono fun e w' ⟨he, hq⟩ => ⟨_, he, by rw [← hb]; exact span_low id h1 h2 v1 v2, hq⟩
theorem order_high (k1 n1 k2 n2 : Int) (s1 s2 : ByteArray) (id : Int) (W : World) (h1 : rng n1) (h2 : rng n2) (v1 : valOk k1 n1 s1 = true) (v2 : valOk k2 n2 s2 = true) (b : Bool) (hb : decide (cmpV k1 n1 s1 k2 n2 s2 ≤ 0) = b) :
    Calls Try.prog 26 #[.string (strOfNums (valBytes k1 n1 s1) ++ strOfNums (fiveBytes id)), .string (strOfNums (valBytes k2 n2 s2) ++ ⟨#[255, 255, 255, 255, 255, 0]⟩)] W fun e w' => ∃ o : Int, e = .returned (.int .i64 o) ∧ decide (o < 0) = b ∧ Quiet W w' := by
  have l1 := valBytes_length (k := k1) (n := n1) (s := s1) v1
  have l2 := valBytes_length (k := k2) (n := n2) (s := s2) v2
  have z1 := strOfNums_size (valBytes k1 n1 s1)
  have z2 := strOfNums_size (valBytes k2 n2 s2)
  have z3 := five_size id
  exact (ref02_Order_calls _ _ W (by rw [ByteArray.size_append]; omega) (by rw [ByteArray.size_append]; show _ + 6 ≤ _; omega)).mono fun e w' ⟨he, hq⟩ => ⟨_, he, by rw [← hb]; exact span_high id h1 h2 v1 v2, hq⟩

set_option maxRecDepth 100000 in
set_option maxHeartbeats 4000000 in
theorem law21_WebSpans_odd (k n kl nl kh nh : Int) (s sl sh : ByteArray) (w : World) (h1 : rng nl) (h2 : rng nh) (hl : valOk kl nl sl = true) (hh : valOk kh nh sh = true) (hv : valOk k n s = false) :
    Calls Try.prog 4 #[.agg #[.int .i64 k, .int .i64 n, .string s], .agg #[.int .i64 kl, .int .i64 nl, .string sl], .agg #[.int .i64 kh, .int .i64 nh, .string sh]] w fun e w' => e = .returned (.bool true) ∧ Below w.heap.size w w' := by
  have HN := Lib.hid (Bx3.new w #[.int .i64 k, .int .i64 n, .string s] #[.int .i64 kl, .int .i64 nl, .string sl] #[.int .i64 kh, .int .i64 nh, .string sh] 42)
  have HS : Hid (∀ W, Calls Try.prog 21 #[.agg #[.int .i64 kl, .int .i64 nl, .string sl], .agg #[.int .i64 kh, .int .i64 nh, .string sh]] W fun e w' => e = .returned (.tuple #[.string (strOfNums (valBytes kl nl sl)), .string (strOfNums (valBytes kh nh sh) ++ ⟨#[255, 255, 255, 255, 255, 0]⟩), .int .i64 0]) ∧ Below W.heap.size W w') := Lib.hid (fun W => web_Span_yes kl nl kh nh sl sh W h1 h2 hl hh)
  have H1 := Lib.hid h1; clear h1
  have H2 := Lib.hid h2; clear h2
  have hvl := valBytes_length (k := kh) (n := nh) (s := sh) hh
  have hvz := strOfNums_size (valBytes kh nh sh)
  have p1 : True := trivial
  go_enter Try.func4, Try.ntmps4
  go_wp2_with (first | (go_at_call 15; refine (law21_awake_calls _).mono ?_; rintro e wa ⟨rfl, hb⟩; have HB := Lib.hid (HN.out.keep hb); clear hb HN; obtain ⟨x0, x1, x2, x3, x4, x5, x6, x7, x8⟩ := HB.out.cells) | (go_at_call 21; refine (HS.out _).mono ?_; rintro e wb ⟨rfl, hb⟩; replace HB := Lib.hid (HB.out.keep hb); clear hb; (try clear x0 x1 x2 x3 x4 x5 x6 x7 x8); obtain ⟨x0, x1, x2, x3, x4, x5, x6, x7, x8⟩ := HB.out.cells) | (go_at_call 22; refine (ref02_Right_calls _ _ _ _).mono ?_; rintro e wb ⟨rfl, hb⟩; replace HB := Lib.hid (HB.out.keep hb); clear hb; (try clear x0 x1 x2 x3 x4 x5 x6 x7 x8); obtain ⟨x0, x1, x2, x3, x4, x5, x6, x7, x8⟩ := HB.out.cells) | (go_at_call 23; clear p1; refine (ref02_Bytes_calls kl nl sl _ H1.out.1 H1.out.2 hl).mono ?_; rintro e wb ⟨vb, rfl, hR, hb⟩; have q1 := str_R hR (Below.refl _ _); clear hR; replace HB := Lib.hid (HB.out.keep hb); clear hb; (try clear x0 x1 x2 x3 x4 x5 x6 x7 x8); obtain ⟨x0, x1, x2, x3, x4, x5, x6, x7, x8⟩ := HB.out.cells) | (go_at_call 23; clear q1; refine (ref02_Bytes_calls kh nh sh _ H2.out.1 H2.out.2 hh).mono ?_; rintro e wb ⟨vb2, rfl, hR, hb⟩; have q1 := str_R hR (Below.refl _ _); clear hR; replace HB := Lib.hid (HB.out.keep hb); clear hb; (try clear x0 x1 x2 x3 x4 x5 x6 x7 x8); obtain ⟨x0, x1, x2, x3, x4, x5, x6, x7, x8⟩ := HB.out.cells))
  go_ret
  exact ⟨rfl, HB.out.2.2.2⟩


set_option maxRecDepth 100000 in
set_option maxHeartbeats 8000000 in
theorem law21_WebSpans_ff (k n kl nl kh nh : Int) (s sl sh : ByteArray) (w : World) (h0 : rng n) (h1 : rng nl) (h2 : rng nh) (hl : valOk kl nl sl = true) (hh : valOk kh nh sh = true) (hv : valOk k n s = true) (hb1 : decide (0 ≤ cmpV k n s kl nl sl) = false) (hb2 : decide (cmpV k n s kh nh sh ≤ 0) = false) :
    Calls Try.prog 4 #[.agg #[.int .i64 k, .int .i64 n, .string s], .agg #[.int .i64 kl, .int .i64 nl, .string sl], .agg #[.int .i64 kh, .int .i64 nh, .string sh]] w fun e w' => e = .returned (.bool true) ∧ Below w.heap.size w w' := by
  have HN := Lib.hid (Bx3.new w #[.int .i64 k, .int .i64 n, .string s] #[.int .i64 kl, .int .i64 nl, .string sl] #[.int .i64 kh, .int .i64 nh, .string sh] 42)
  have HS : Hid (∀ W, Calls Try.prog 21 #[.agg #[.int .i64 kl, .int .i64 nl, .string sl], .agg #[.int .i64 kh, .int .i64 nh, .string sh]] W fun e w' => e = .returned (.tuple #[.string (strOfNums (valBytes kl nl sl)), .string (strOfNums (valBytes kh nh sh) ++ ⟨#[255, 255, 255, 255, 255, 0]⟩), .int .i64 0]) ∧ Below W.heap.size W w') := Lib.hid (fun W => web_Span_yes kl nl kh nh sl sh W h1 h2 hl hh)
  have hvl := valBytes_length (k := kh) (n := nh) (s := sh) hh
  have hvz := strOfNums_size (valBytes kh nh sh)
  have hvl2 := valBytes_length (k := k) (n := n) (s := s) hv
  have hvz2 := strOfNums_size (valBytes k n s)
  have hsz : s.size ≤ 200 ∧ sl.size ≤ 200 ∧ sh.size ≤ 200 := ⟨valOk_size hv, valOk_size hl, valOk_size hh⟩
  obtain ⟨hs0, hs1, hs2⟩ := hsz
  have HO1 := Lib.hid (fun id W => order_low k n kl nl s sl id W h0 h1 hv hl _ hb1)
  have HO2 := Lib.hid (fun id W => order_high k n kh nh s sh id W h0 h2 hv hh _ hb2)
  have HC1 := Lib.hid (fun W => ref02_Compare_calls k n kl nl s sl W (by omega) (by omega))
  have HC2 := Lib.hid (fun W => ref02_Compare_calls k n kh nh s sh W (by omega) (by omega))
  generalize cmpV k n s kl nl sl = o1 at HC1 hb1
  generalize cmpV k n s kh nh sh = o2 at HC2 hb2
  have H0 := Lib.hid h0
  have H1 := Lib.hid h1
  have H2 := Lib.hid h2
  clear h0 h1 h2
  have p1 : True := trivial
  have p2 : True := trivial
  go_enter Try.func4, Try.ntmps4
  go_wp2_with (first
    | (go_at_call 15; refine (law21_awake_calls _).mono ?_; rintro e wa ⟨rfl, hb⟩; have HB := Lib.hid (HN.out.keep hb); clear hb HN; obtain ⟨x0, x1, x2, x3, x4, x5, x6, x7, x8⟩ := HB.out.cells)
    | (go_at_call 21; refine (HS.out _).mono ?_; rintro e wb ⟨rfl, hb⟩; replace HB := Lib.hid (HB.out.keep hb); clear hb; (try clear x0 x1 x2 x3 x4 x5 x6 x7 x8); obtain ⟨x0, x1, x2, x3, x4, x5, x6, x7, x8⟩ := HB.out.cells)
    | (go_at_call 22; refine (ref02_Right_calls _ _ _ _).mono ?_; rintro e wb ⟨rfl, hb⟩; replace HB := Lib.hid (HB.out.keep hb); clear hb; (try clear x0 x1 x2 x3 x4 x5 x6 x7 x8); obtain ⟨x0, x1, x2, x3, x4, x5, x6, x7, x8⟩ := HB.out.cells)
    | (go_at_call 23; clear p1; refine (ref02_Bytes_calls kl nl sl _ H1.out.1 H1.out.2 hl).mono ?_; rintro e wb ⟨vb, rfl, hR, hb⟩; have q1 := str_R hR (Below.refl _ _); clear hR; replace HB := Lib.hid (HB.out.keep hb); clear hb; (try clear x0 x1 x2 x3 x4 x5 x6 x7 x8); obtain ⟨x0, x1, x2, x3, x4, x5, x6, x7, x8⟩ := HB.out.cells)
    | (go_at_call 23; clear q1; refine (ref02_Bytes_calls kh nh sh _ H2.out.1 H2.out.2 hh).mono ?_; rintro e wb ⟨vb2, rfl, hR, hb⟩; have q1 := str_R hR (Below.refl _ _); clear hR; replace HB := Lib.hid (HB.out.keep hb); clear hb; (try clear x0 x1 x2 x3 x4 x5 x6 x7 x8); obtain ⟨x0, x1, x2, x3, x4, x5, x6, x7, x8⟩ := HB.out.cells)
    | (go_at_call 24; clear p2; refine (HC1.out _).mono ?_; rintro e wb ⟨rfl, hb⟩; replace HB := Lib.hid (HB.out.keep hb); clear hb; (try clear x0 x1 x2 x3 x4 x5 x6 x7 x8); obtain ⟨x0, x1, x2, x3, x4, x5, x6, x7, x8⟩ := HB.out.cells)
    | (go_at_call 24; refine (HC2.out _).mono ?_; rintro e wb ⟨rfl, hb⟩; replace HB := Lib.hid (HB.out.keep hb); clear hb; (try clear x0 x1 x2 x3 x4 x5 x6 x7 x8); obtain ⟨x0, x1, x2, x3, x4, x5, x6, x7, x8⟩ := HB.out.cells))
  have HI := Lib.hid (ids5_C wb wb.heap.size rfl)
  have HX := Lib.hid (HB.out.keep (below_al wb (.cells #[.int .i64 0, .int .i64 1, .int .i64 255, .int .i64 4294967296, .int .i64 1099511627775] 3)))
  clear x0 x1 x2 x3 x4 x5 x6 x7 x8 q1 HB HC1 HC2
  go_loopw [12] (fun v12 wr => ∃ i : Nat, i ≤ 5 ∧ v12 = .int .i64 i ∧ Hid (Bx3 w #[.int .i64 k, .int .i64 n, .string s] #[.int .i64 kl, .int .i64 nl, .string sl] #[.int .i64 kh, .int .i64 nh, .string sh] 42 wr) ∧ Hid ((Kd.int .i64).C wr (some ⟨wb.heap.size, 0, none⟩) 5 ids5)) (fun v12 _ => 5 - (intOf v12).toNat)
  case atStart => exact ⟨0, by omega, rfl, HX, HI⟩
  case round =>
    obtain ⟨i, hi, rfl, HB, HR⟩ := hrel
    by_cases hlt : i < 5
    · have hlt2 : (i : Int) < 5 := by omega
      have hz5 := five_size (rd ids5 (i : Int))
      have HU := Lib.hid (ids5_range i hlt)
      have p3 : True := trivial
      go_wp2_with fail
      refine wp_region_held_drew (S := (fun w' => Bx3 w #[.int .i64 k, .int .i64 n, .string s] #[.int .i64 kl, .int .i64 nl, .string sl] #[.int .i64 kh, .int .i64 nh, .string sh] 42 w' ∧ (Kd.int .i64).C w' (some ⟨wb.heap.size, 0, none⟩) 5 ids5)) (by kernel_rfl) ?hS1 (fun hH0 => ?_)
      case hS1 => exact ⟨HB.out.keep (below_drew (Below.refl _ _)), Kd.C_below HR.out (below_drew (Below.refl _ _))⟩
      refine takeY (oi := { dst := some 78, op := Op.load 42 (Operand.tmp 3), type := 42, pos := "law.go:110", after := #[], guard := none }) 0 (some 78) (v := ?v0_1) rfl rfl (by kernel_rfl) (by kernel_rfl) (by kernel_rfl) (fun _ _ _ h => h) (by kernel_rfl) ?hy1 hH0 ?_
      case hy1 => (intro w_ hSw; (try dsimp only at hSw); (obtain ⟨x0, x1, x2, x3, x4, x5, x6, x7, x8⟩ := hSw.1.cells; go_simp; (first | done | with_reducible rfl)))
      simp only [Act.put, List.setIfInBounds_toArray, List.set_cons_zero, List.set_cons_succ]
      refine takeY (oi := { dst := some 81, op := Op.move (Operand.tmp 11), type := 49, pos := "law.go:110", after := #[], guard := none }) 3 (some 81) (v := ?v3_1) rfl rfl (by kernel_rfl) (by kernel_rfl) (by kernel_rfl) (fun _ _ _ h => h) (by kernel_rfl) ?hy1 hH0 ?_
      case hy1 => (intro w_ hSw; (try dsimp only at hSw); go_simp; (first | done | with_reducible rfl | rw [if_neg (by omega)]))
      simp only [Act.put, List.setIfInBounds_toArray, List.set_cons_zero, List.set_cons_succ]
      refine takeY (oi := { dst := some 82, op := Op.move (Operand.tmp 12), type := 3, pos := "law.go:110", after := #[], guard := none }) 4 (some 82) (v := ?v4_1) rfl rfl (by kernel_rfl) (by kernel_rfl) (by kernel_rfl) (fun _ _ _ h => h) (by kernel_rfl) ?hy1 hH0 ?_
      case hy1 => (intro w_ hSw; (try dsimp only at hSw); go_simp; (first | done | with_reducible rfl | rw [if_neg (by omega)]))
      simp only [Act.put, List.setIfInBounds_toArray, List.set_cons_zero, List.set_cons_succ]
      refine takeY (oi := { dst := some 83, op := Op.indexAddr 49 (Operand.tmp 81) (Operand.tmp 82), type := 0, pos := "law.go:110", after := #[{ on := 3, ground := Ground.data }, { on := 4, ground := Ground.data }], guard := none }) 5 (some 83) (v := ?v5_1) rfl rfl (by kernel_rfl) (by kernel_rfl) (by kernel_rfl) (fun _ _ _ h => h) (by kernel_rfl) ?hy1 hH0 ?_
      case hy1 => (intro w_ hSw; (try dsimp only at hSw); (go_simp; (first | done | with_reducible rfl | rw [if_neg (by omega)])))
      simp only [Act.put, List.setIfInBounds_toArray, List.set_cons_zero, List.set_cons_succ]
      refine takeY (oi := { dst := some 84, op := Op.load 3 (Operand.tmp 83), type := 3, pos := "law.go:110", after := #[{ on := 5, ground := Ground.data }], guard := none }) 6 (some 84) (v := ?v6_1) rfl rfl (by kernel_rfl) (by kernel_rfl) (by kernel_rfl) (fun _ _ _ h => h) (by kernel_rfl) ?hy1 hH0 ?_
      case hy1 => (intro w_ hSw; (try dsimp only at hSw); (obtain ⟨ad, e, g0⟩ := Kd.at_int (show (Kd.int .i64).C w_ (some ⟨wb.heap.size, 0, none⟩) 5 ids5 from by first | exact hSw.2 | exact hSw.1.2) (i : Int) (by omega) (by omega); cases e; rw [add_plain, Int.toNat_natCast] at g0; go_simp; (first | done | with_reducible rfl)))
      simp only [Act.put, List.setIfInBounds_toArray, List.set_cons_zero, List.set_cons_succ]
      refine wpAnyH_ready (rs := [1]) (by kernel_rfl) (by simp) ?_
      refine AllReadyH.cons (o := { dst := some 79, op := Op.call { callee := Callee.value (Operand.func 23), args := #[Operand.tmp 78], argTypes := #[42] }, type := 46, pos := "law.go:110", after := #[{ on := 0, ground := Ground.data }], guard := none }) rfl (fun K1 hK1 => ?_) AllReadyH.nil
      go_simp; refine (ref02_Bytes_calls k n s _ H0.out.1 H0.out.2 hv).mono ?_; rintro e w2 ⟨v2, rfl, hR2, hb2⟩
      refine hK1.out _ _ ?hS1 (fun hH1 => ?_)
      case hS1 => ((try dsimp only); (exact ⟨hH0.1.keep hb2, Kd.C_below hH0.2 hb2⟩))
      clear hK1 K1
      (try clear hH0)
      (try simp only [Act.put, List.setIfInBounds_toArray, List.set_cons_zero, List.set_cons_succ])
      refine wpAnyH_stronger (S2 := (fun w' => (Bx3 w #[.int .i64 k, .int .i64 n, .string s] #[.int .i64 kl, .int .i64 nl, .string sl] #[.int .i64 kh, .int .i64 nh, .string sh] 42 w' ∧ (Kd.int .i64).C w' (some ⟨wb.heap.size, 0, none⟩) 5 ids5) ∧ Below w2.heap.size w2 w')) (fun w_ h_ => h_.1) _ _ _ _ ?_
      replace hH1 := (And.intro hH1 (Below.refl w2.heap.size w2))
      refine takeY (oi := { dst := some 80, op := Op.convert 46 9 (Operand.tmp 79), type := 9, pos := "law.go:110", after := #[{ on := 1, ground := Ground.data }], guard := none }) 2 (some 80) (v := ?v2_1) rfl rfl (by kernel_rfl) (by kernel_rfl) (by kernel_rfl) (fun _ _ _ h => h) (by kernel_rfl) ?hy1 hH1 ?_
      case hy1 => (intro w_ hSw; (try dsimp only at hSw); (have hc := str_R hR2 hSw.2; go_simp; (first | done | with_reducible rfl)))
      simp only [Act.put, List.setIfInBounds_toArray, List.set_cons_zero, List.set_cons_succ]
      refine wpAnyH_ready (rs := [7]) (by kernel_rfl) (by simp) ?_
      refine AllReadyH.cons (o := { dst := some 85, op := Op.call { callee := Callee.value (Operand.func 25), args := #[Operand.tmp 84], argTypes := #[3] }, type := 9, pos := "law.go:110", after := #[{ on := 6, ground := Ground.data }, { on := 1, ground := Ground.chain }], guard := none }) rfl (fun K2 hK2 => ?_) AllReadyH.nil
      go_simp; refine (ref21_Five_calls (rd ids5 (i : Int)) _ HU.out.1 HU.out.2).mono ?_; rintro e w3 ⟨rfl, hb3⟩
      refine hK2.out _ _ ?hS1 (fun hH2 => ?_)
      case hS1 => ((try dsimp only); (exact ⟨⟨hH1.1.1.keep hb3, Kd.C_below hH1.1.2 hb3⟩, keepB0 hb3 hH1.2⟩))
      clear hK2 K2
      (try clear hH1)
      (try simp only [Act.put, List.setIfInBounds_toArray, List.set_cons_zero, List.set_cons_succ])
      refine takeY (oi := { dst := some 86, op := Op.binOp BinOp.add 9 (Operand.tmp 80) (Operand.tmp 85) 9, type := 9, pos := "law.go:110", after := #[{ on := 2, ground := Ground.data }, { on := 7, ground := Ground.data }], guard := none }) 8 (some 86) (v := ?v8_1) rfl rfl (by kernel_rfl) (by kernel_rfl) (by kernel_rfl) (fun _ _ _ h => h) (by kernel_rfl) ?hy1 hH2 ?_
      case hy1 => (intro w_ hSw; (try dsimp only at hSw); go_simp; (first | done | with_reducible rfl | rw [if_neg (by omega)]))
      simp only [Act.put, List.setIfInBounds_toArray, List.set_cons_zero, List.set_cons_succ]
      refine takeY (oi := { dst := some 13, op := Op.assign (Operand.tmp 86), type := 9, pos := "law.go:110", after := #[{ on := 8, ground := Ground.data }, { on := 7, ground := Ground.chain }, { on := 0, ground := Ground.phase }, { on := 1, ground := Ground.phase }, { on := 2, ground := Ground.phase }, { on := 3, ground := Ground.phase }, { on := 4, ground := Ground.phase }, { on := 5, ground := Ground.phase }, { on := 6, ground := Ground.phase }, { on := 7, ground := Ground.phase }, { on := 8, ground := Ground.phase }], guard := none }) 9 (some 13) (v := ?v9_1) rfl rfl (by kernel_rfl) (by kernel_rfl) (by kernel_rfl) (fun _ _ _ h => h) (by kernel_rfl) ?hy1 hH2 ?_
      case hy1 => (intro w_ hSw; (try dsimp only at hSw); go_simp; (first | done | with_reducible rfl | rw [if_neg (by omega)]))
      simp only [Act.put, List.setIfInBounds_toArray, List.set_cons_zero, List.set_cons_succ]
      refine wpAnyH_done (by kernel_rfl) ?_ _
      have hEnd := hH2
      clear hH2
      have HE := Lib.hid hEnd.1
      clear hEnd
      go_wp2_with (first
        | (go_at_call 26; clear p3; refine (HO1.out (rd ids5 (i : Int)) _).mono ?_; rintro e wo ⟨o, rfl, ho, hq⟩; replace HE := Lib.hid (And.intro (HE.out.1.keep (quiet_below hq _)) (Kd.C_below HE.out.2 (quiet_below hq _))); clear hq)
        | (go_at_call 26; refine (HO2.out (rd ids5 (i : Int)) _).mono ?_; rintro e wo ⟨o2, rfl, ho2, hq⟩; replace HE := Lib.hid (And.intro (HE.out.1.keep (quiet_below hq _)) (Kd.C_below HE.out.2 (quiet_below hq _))); clear hq))
      go_roundw
      case rel => exact ⟨i + 1, by omega, by go_num, Lib.hid HE.out.1, Lib.hid HE.out.2⟩
      case measure => simp [intOf]; omega
    · have hlt2 : ¬ (i : Int) < 5 := by omega
      go_wp2
      go_ret
      exact ⟨rfl, HB.out.2.2.2⟩

set_option maxRecDepth 100000 in
set_option maxHeartbeats 8000000 in
theorem law21_WebSpans_ft (k n kl nl kh nh : Int) (s sl sh : ByteArray) (w : World) (h0 : rng n) (h1 : rng nl) (h2 : rng nh) (hl : valOk kl nl sl = true) (hh : valOk kh nh sh = true) (hv : valOk k n s = true) (hb1 : decide (0 ≤ cmpV k n s kl nl sl) = false) (hb2 : decide (cmpV k n s kh nh sh ≤ 0) = true) :
    Calls Try.prog 4 #[.agg #[.int .i64 k, .int .i64 n, .string s], .agg #[.int .i64 kl, .int .i64 nl, .string sl], .agg #[.int .i64 kh, .int .i64 nh, .string sh]] w fun e w' => e = .returned (.bool true) ∧ Below w.heap.size w w' := by
  have HN := Lib.hid (Bx3.new w #[.int .i64 k, .int .i64 n, .string s] #[.int .i64 kl, .int .i64 nl, .string sl] #[.int .i64 kh, .int .i64 nh, .string sh] 42)
  have HS : Hid (∀ W, Calls Try.prog 21 #[.agg #[.int .i64 kl, .int .i64 nl, .string sl], .agg #[.int .i64 kh, .int .i64 nh, .string sh]] W fun e w' => e = .returned (.tuple #[.string (strOfNums (valBytes kl nl sl)), .string (strOfNums (valBytes kh nh sh) ++ ⟨#[255, 255, 255, 255, 255, 0]⟩), .int .i64 0]) ∧ Below W.heap.size W w') := Lib.hid (fun W => web_Span_yes kl nl kh nh sl sh W h1 h2 hl hh)
  have hvl := valBytes_length (k := kh) (n := nh) (s := sh) hh
  have hvz := strOfNums_size (valBytes kh nh sh)
  have hvl2 := valBytes_length (k := k) (n := n) (s := s) hv
  have hvz2 := strOfNums_size (valBytes k n s)
  have hsz : s.size ≤ 200 ∧ sl.size ≤ 200 ∧ sh.size ≤ 200 := ⟨valOk_size hv, valOk_size hl, valOk_size hh⟩
  obtain ⟨hs0, hs1, hs2⟩ := hsz
  have HO1 := Lib.hid (fun id W => order_low k n kl nl s sl id W h0 h1 hv hl _ hb1)
  have HO2 := Lib.hid (fun id W => order_high k n kh nh s sh id W h0 h2 hv hh _ hb2)
  have HC1 := Lib.hid (fun W => ref02_Compare_calls k n kl nl s sl W (by omega) (by omega))
  have HC2 := Lib.hid (fun W => ref02_Compare_calls k n kh nh s sh W (by omega) (by omega))
  generalize cmpV k n s kl nl sl = o1 at HC1 hb1
  generalize cmpV k n s kh nh sh = o2 at HC2 hb2
  have H0 := Lib.hid h0
  have H1 := Lib.hid h1
  have H2 := Lib.hid h2
  clear h0 h1 h2
  have p1 : True := trivial
  have p2 : True := trivial
  go_enter Try.func4, Try.ntmps4
  go_wp2_with (first
    | (go_at_call 15; refine (law21_awake_calls _).mono ?_; rintro e wa ⟨rfl, hb⟩; have HB := Lib.hid (HN.out.keep hb); clear hb HN; obtain ⟨x0, x1, x2, x3, x4, x5, x6, x7, x8⟩ := HB.out.cells)
    | (go_at_call 21; refine (HS.out _).mono ?_; rintro e wb ⟨rfl, hb⟩; replace HB := Lib.hid (HB.out.keep hb); clear hb; (try clear x0 x1 x2 x3 x4 x5 x6 x7 x8); obtain ⟨x0, x1, x2, x3, x4, x5, x6, x7, x8⟩ := HB.out.cells)
    | (go_at_call 22; refine (ref02_Right_calls _ _ _ _).mono ?_; rintro e wb ⟨rfl, hb⟩; replace HB := Lib.hid (HB.out.keep hb); clear hb; (try clear x0 x1 x2 x3 x4 x5 x6 x7 x8); obtain ⟨x0, x1, x2, x3, x4, x5, x6, x7, x8⟩ := HB.out.cells)
    | (go_at_call 23; clear p1; refine (ref02_Bytes_calls kl nl sl _ H1.out.1 H1.out.2 hl).mono ?_; rintro e wb ⟨vb, rfl, hR, hb⟩; have q1 := str_R hR (Below.refl _ _); clear hR; replace HB := Lib.hid (HB.out.keep hb); clear hb; (try clear x0 x1 x2 x3 x4 x5 x6 x7 x8); obtain ⟨x0, x1, x2, x3, x4, x5, x6, x7, x8⟩ := HB.out.cells)
    | (go_at_call 23; clear q1; refine (ref02_Bytes_calls kh nh sh _ H2.out.1 H2.out.2 hh).mono ?_; rintro e wb ⟨vb2, rfl, hR, hb⟩; have q1 := str_R hR (Below.refl _ _); clear hR; replace HB := Lib.hid (HB.out.keep hb); clear hb; (try clear x0 x1 x2 x3 x4 x5 x6 x7 x8); obtain ⟨x0, x1, x2, x3, x4, x5, x6, x7, x8⟩ := HB.out.cells)
    | (go_at_call 24; clear p2; refine (HC1.out _).mono ?_; rintro e wb ⟨rfl, hb⟩; replace HB := Lib.hid (HB.out.keep hb); clear hb; (try clear x0 x1 x2 x3 x4 x5 x6 x7 x8); obtain ⟨x0, x1, x2, x3, x4, x5, x6, x7, x8⟩ := HB.out.cells)
    | (go_at_call 24; refine (HC2.out _).mono ?_; rintro e wb ⟨rfl, hb⟩; replace HB := Lib.hid (HB.out.keep hb); clear hb; (try clear x0 x1 x2 x3 x4 x5 x6 x7 x8); obtain ⟨x0, x1, x2, x3, x4, x5, x6, x7, x8⟩ := HB.out.cells))
  have HI := Lib.hid (ids5_C wb wb.heap.size rfl)
  have HX := Lib.hid (HB.out.keep (below_al wb (.cells #[.int .i64 0, .int .i64 1, .int .i64 255, .int .i64 4294967296, .int .i64 1099511627775] 3)))
  clear x0 x1 x2 x3 x4 x5 x6 x7 x8 q1 HB HC1 HC2
  go_loopw [12] (fun v12 wr => ∃ i : Nat, i ≤ 5 ∧ v12 = .int .i64 i ∧ Hid (Bx3 w #[.int .i64 k, .int .i64 n, .string s] #[.int .i64 kl, .int .i64 nl, .string sl] #[.int .i64 kh, .int .i64 nh, .string sh] 42 wr) ∧ Hid ((Kd.int .i64).C wr (some ⟨wb.heap.size, 0, none⟩) 5 ids5)) (fun v12 _ => 5 - (intOf v12).toNat)
  case atStart => exact ⟨0, by omega, rfl, HX, HI⟩
  case round =>
    obtain ⟨i, hi, rfl, HB, HR⟩ := hrel
    by_cases hlt : i < 5
    · have hlt2 : (i : Int) < 5 := by omega
      have hz5 := five_size (rd ids5 (i : Int))
      have HU := Lib.hid (ids5_range i hlt)
      have p3 : True := trivial
      go_wp2_with fail
      refine wp_region_held_drew (S := (fun w' => Bx3 w #[.int .i64 k, .int .i64 n, .string s] #[.int .i64 kl, .int .i64 nl, .string sl] #[.int .i64 kh, .int .i64 nh, .string sh] 42 w' ∧ (Kd.int .i64).C w' (some ⟨wb.heap.size, 0, none⟩) 5 ids5)) (by kernel_rfl) ?hS2 (fun hH0 => ?_)
      case hS2 => exact ⟨HB.out.keep (below_drew (Below.refl _ _)), Kd.C_below HR.out (below_drew (Below.refl _ _))⟩
      refine takeY (oi := { dst := some 78, op := Op.load 42 (Operand.tmp 3), type := 42, pos := "law.go:110", after := #[], guard := none }) 0 (some 78) (v := ?v0_2) rfl rfl (by kernel_rfl) (by kernel_rfl) (by kernel_rfl) (fun _ _ _ h => h) (by kernel_rfl) ?hy2 hH0 ?_
      case hy2 => (intro w_ hSw; (try dsimp only at hSw); (obtain ⟨x0, x1, x2, x3, x4, x5, x6, x7, x8⟩ := hSw.1.cells; go_simp; (first | done | with_reducible rfl)))
      simp only [Act.put, List.setIfInBounds_toArray, List.set_cons_zero, List.set_cons_succ]
      refine takeY (oi := { dst := some 81, op := Op.move (Operand.tmp 11), type := 49, pos := "law.go:110", after := #[], guard := none }) 3 (some 81) (v := ?v3_2) rfl rfl (by kernel_rfl) (by kernel_rfl) (by kernel_rfl) (fun _ _ _ h => h) (by kernel_rfl) ?hy2 hH0 ?_
      case hy2 => (intro w_ hSw; (try dsimp only at hSw); go_simp; (first | done | with_reducible rfl | rw [if_neg (by omega)]))
      simp only [Act.put, List.setIfInBounds_toArray, List.set_cons_zero, List.set_cons_succ]
      refine takeY (oi := { dst := some 82, op := Op.move (Operand.tmp 12), type := 3, pos := "law.go:110", after := #[], guard := none }) 4 (some 82) (v := ?v4_2) rfl rfl (by kernel_rfl) (by kernel_rfl) (by kernel_rfl) (fun _ _ _ h => h) (by kernel_rfl) ?hy2 hH0 ?_
      case hy2 => (intro w_ hSw; (try dsimp only at hSw); go_simp; (first | done | with_reducible rfl | rw [if_neg (by omega)]))
      simp only [Act.put, List.setIfInBounds_toArray, List.set_cons_zero, List.set_cons_succ]
      refine takeY (oi := { dst := some 83, op := Op.indexAddr 49 (Operand.tmp 81) (Operand.tmp 82), type := 0, pos := "law.go:110", after := #[{ on := 3, ground := Ground.data }, { on := 4, ground := Ground.data }], guard := none }) 5 (some 83) (v := ?v5_2) rfl rfl (by kernel_rfl) (by kernel_rfl) (by kernel_rfl) (fun _ _ _ h => h) (by kernel_rfl) ?hy2 hH0 ?_
      case hy2 => (intro w_ hSw; (try dsimp only at hSw); (go_simp; (first | done | with_reducible rfl | rw [if_neg (by omega)])))
      simp only [Act.put, List.setIfInBounds_toArray, List.set_cons_zero, List.set_cons_succ]
      refine takeY (oi := { dst := some 84, op := Op.load 3 (Operand.tmp 83), type := 3, pos := "law.go:110", after := #[{ on := 5, ground := Ground.data }], guard := none }) 6 (some 84) (v := ?v6_2) rfl rfl (by kernel_rfl) (by kernel_rfl) (by kernel_rfl) (fun _ _ _ h => h) (by kernel_rfl) ?hy2 hH0 ?_
      case hy2 => (intro w_ hSw; (try dsimp only at hSw); (obtain ⟨ad, e, g0⟩ := Kd.at_int (show (Kd.int .i64).C w_ (some ⟨wb.heap.size, 0, none⟩) 5 ids5 from by first | exact hSw.2 | exact hSw.1.2) (i : Int) (by omega) (by omega); cases e; rw [add_plain, Int.toNat_natCast] at g0; go_simp; (first | done | with_reducible rfl)))
      simp only [Act.put, List.setIfInBounds_toArray, List.set_cons_zero, List.set_cons_succ]
      refine wpAnyH_ready (rs := [1]) (by kernel_rfl) (by simp) ?_
      refine AllReadyH.cons (o := { dst := some 79, op := Op.call { callee := Callee.value (Operand.func 23), args := #[Operand.tmp 78], argTypes := #[42] }, type := 46, pos := "law.go:110", after := #[{ on := 0, ground := Ground.data }], guard := none }) rfl (fun K1 hK1 => ?_) AllReadyH.nil
      go_simp; refine (ref02_Bytes_calls k n s _ H0.out.1 H0.out.2 hv).mono ?_; rintro e w2 ⟨v2, rfl, hR2, hb2⟩
      refine hK1.out _ _ ?hS2 (fun hH1 => ?_)
      case hS2 => ((try dsimp only); (exact ⟨hH0.1.keep hb2, Kd.C_below hH0.2 hb2⟩))
      clear hK1 K1
      (try clear hH0)
      (try simp only [Act.put, List.setIfInBounds_toArray, List.set_cons_zero, List.set_cons_succ])
      refine wpAnyH_stronger (S2 := (fun w' => (Bx3 w #[.int .i64 k, .int .i64 n, .string s] #[.int .i64 kl, .int .i64 nl, .string sl] #[.int .i64 kh, .int .i64 nh, .string sh] 42 w' ∧ (Kd.int .i64).C w' (some ⟨wb.heap.size, 0, none⟩) 5 ids5) ∧ Below w2.heap.size w2 w')) (fun w_ h_ => h_.1) _ _ _ _ ?_
      replace hH1 := (And.intro hH1 (Below.refl w2.heap.size w2))
      refine takeY (oi := { dst := some 80, op := Op.convert 46 9 (Operand.tmp 79), type := 9, pos := "law.go:110", after := #[{ on := 1, ground := Ground.data }], guard := none }) 2 (some 80) (v := ?v2_2) rfl rfl (by kernel_rfl) (by kernel_rfl) (by kernel_rfl) (fun _ _ _ h => h) (by kernel_rfl) ?hy2 hH1 ?_
      case hy2 => (intro w_ hSw; (try dsimp only at hSw); (have hc := str_R hR2 hSw.2; go_simp; (first | done | with_reducible rfl)))
      simp only [Act.put, List.setIfInBounds_toArray, List.set_cons_zero, List.set_cons_succ]
      refine wpAnyH_ready (rs := [7]) (by kernel_rfl) (by simp) ?_
      refine AllReadyH.cons (o := { dst := some 85, op := Op.call { callee := Callee.value (Operand.func 25), args := #[Operand.tmp 84], argTypes := #[3] }, type := 9, pos := "law.go:110", after := #[{ on := 6, ground := Ground.data }, { on := 1, ground := Ground.chain }], guard := none }) rfl (fun K2 hK2 => ?_) AllReadyH.nil
      go_simp; refine (ref21_Five_calls (rd ids5 (i : Int)) _ HU.out.1 HU.out.2).mono ?_; rintro e w3 ⟨rfl, hb3⟩
      refine hK2.out _ _ ?hS2 (fun hH2 => ?_)
      case hS2 => ((try dsimp only); (exact ⟨⟨hH1.1.1.keep hb3, Kd.C_below hH1.1.2 hb3⟩, keepB0 hb3 hH1.2⟩))
      clear hK2 K2
      (try clear hH1)
      (try simp only [Act.put, List.setIfInBounds_toArray, List.set_cons_zero, List.set_cons_succ])
      refine takeY (oi := { dst := some 86, op := Op.binOp BinOp.add 9 (Operand.tmp 80) (Operand.tmp 85) 9, type := 9, pos := "law.go:110", after := #[{ on := 2, ground := Ground.data }, { on := 7, ground := Ground.data }], guard := none }) 8 (some 86) (v := ?v8_2) rfl rfl (by kernel_rfl) (by kernel_rfl) (by kernel_rfl) (fun _ _ _ h => h) (by kernel_rfl) ?hy2 hH2 ?_
      case hy2 => (intro w_ hSw; (try dsimp only at hSw); go_simp; (first | done | with_reducible rfl | rw [if_neg (by omega)]))
      simp only [Act.put, List.setIfInBounds_toArray, List.set_cons_zero, List.set_cons_succ]
      refine takeY (oi := { dst := some 13, op := Op.assign (Operand.tmp 86), type := 9, pos := "law.go:110", after := #[{ on := 8, ground := Ground.data }, { on := 7, ground := Ground.chain }, { on := 0, ground := Ground.phase }, { on := 1, ground := Ground.phase }, { on := 2, ground := Ground.phase }, { on := 3, ground := Ground.phase }, { on := 4, ground := Ground.phase }, { on := 5, ground := Ground.phase }, { on := 6, ground := Ground.phase }, { on := 7, ground := Ground.phase }, { on := 8, ground := Ground.phase }], guard := none }) 9 (some 13) (v := ?v9_2) rfl rfl (by kernel_rfl) (by kernel_rfl) (by kernel_rfl) (fun _ _ _ h => h) (by kernel_rfl) ?hy2 hH2 ?_
      case hy2 => (intro w_ hSw; (try dsimp only at hSw); go_simp; (first | done | with_reducible rfl | rw [if_neg (by omega)]))
      simp only [Act.put, List.setIfInBounds_toArray, List.set_cons_zero, List.set_cons_succ]
      refine wpAnyH_done (by kernel_rfl) ?_ _
      have hEnd := hH2
      clear hH2
      have HE := Lib.hid hEnd.1
      clear hEnd
      go_wp2_with (first
        | (go_at_call 26; clear p3; refine (HO1.out (rd ids5 (i : Int)) _).mono ?_; rintro e wo ⟨o, rfl, ho, hq⟩; replace HE := Lib.hid (And.intro (HE.out.1.keep (quiet_below hq _)) (Kd.C_below HE.out.2 (quiet_below hq _))); clear hq)
        | (go_at_call 26; refine (HO2.out (rd ids5 (i : Int)) _).mono ?_; rintro e wo ⟨o2, rfl, ho2, hq⟩; replace HE := Lib.hid (And.intro (HE.out.1.keep (quiet_below hq _)) (Kd.C_below HE.out.2 (quiet_below hq _))); clear hq))
      go_roundw
      case rel => exact ⟨i + 1, by omega, by go_num, Lib.hid HE.out.1, Lib.hid HE.out.2⟩
      case measure => simp [intOf]; omega
    · have hlt2 : ¬ (i : Int) < 5 := by omega
      go_wp2
      go_ret
      exact ⟨rfl, HB.out.2.2.2⟩

set_option maxRecDepth 100000 in
set_option maxHeartbeats 8000000 in
theorem law21_WebSpans_tf (k n kl nl kh nh : Int) (s sl sh : ByteArray) (w : World) (h0 : rng n) (h1 : rng nl) (h2 : rng nh) (hl : valOk kl nl sl = true) (hh : valOk kh nh sh = true) (hv : valOk k n s = true) (hb1 : decide (0 ≤ cmpV k n s kl nl sl) = true) (hb2 : decide (cmpV k n s kh nh sh ≤ 0) = false) :
    Calls Try.prog 4 #[.agg #[.int .i64 k, .int .i64 n, .string s], .agg #[.int .i64 kl, .int .i64 nl, .string sl], .agg #[.int .i64 kh, .int .i64 nh, .string sh]] w fun e w' => e = .returned (.bool true) ∧ Below w.heap.size w w' := by
  have HN := Lib.hid (Bx3.new w #[.int .i64 k, .int .i64 n, .string s] #[.int .i64 kl, .int .i64 nl, .string sl] #[.int .i64 kh, .int .i64 nh, .string sh] 42)
  have HS : Hid (∀ W, Calls Try.prog 21 #[.agg #[.int .i64 kl, .int .i64 nl, .string sl], .agg #[.int .i64 kh, .int .i64 nh, .string sh]] W fun e w' => e = .returned (.tuple #[.string (strOfNums (valBytes kl nl sl)), .string (strOfNums (valBytes kh nh sh) ++ ⟨#[255, 255, 255, 255, 255, 0]⟩), .int .i64 0]) ∧ Below W.heap.size W w') := Lib.hid (fun W => web_Span_yes kl nl kh nh sl sh W h1 h2 hl hh)
  have hvl := valBytes_length (k := kh) (n := nh) (s := sh) hh
  have hvz := strOfNums_size (valBytes kh nh sh)
  have hvl2 := valBytes_length (k := k) (n := n) (s := s) hv
  have hvz2 := strOfNums_size (valBytes k n s)
  have hsz : s.size ≤ 200 ∧ sl.size ≤ 200 ∧ sh.size ≤ 200 := ⟨valOk_size hv, valOk_size hl, valOk_size hh⟩
  obtain ⟨hs0, hs1, hs2⟩ := hsz
  have HO1 := Lib.hid (fun id W => order_low k n kl nl s sl id W h0 h1 hv hl _ hb1)
  have HO2 := Lib.hid (fun id W => order_high k n kh nh s sh id W h0 h2 hv hh _ hb2)
  have HC1 := Lib.hid (fun W => ref02_Compare_calls k n kl nl s sl W (by omega) (by omega))
  have HC2 := Lib.hid (fun W => ref02_Compare_calls k n kh nh s sh W (by omega) (by omega))
  generalize cmpV k n s kl nl sl = o1 at HC1 hb1
  generalize cmpV k n s kh nh sh = o2 at HC2 hb2
  have H0 := Lib.hid h0
  have H1 := Lib.hid h1
  have H2 := Lib.hid h2
  clear h0 h1 h2
  have p1 : True := trivial
  have p2 : True := trivial
  go_enter Try.func4, Try.ntmps4
  go_wp2_with (first
    | (go_at_call 15; refine (law21_awake_calls _).mono ?_; rintro e wa ⟨rfl, hb⟩; have HB := Lib.hid (HN.out.keep hb); clear hb HN; obtain ⟨x0, x1, x2, x3, x4, x5, x6, x7, x8⟩ := HB.out.cells)
    | (go_at_call 21; refine (HS.out _).mono ?_; rintro e wb ⟨rfl, hb⟩; replace HB := Lib.hid (HB.out.keep hb); clear hb; (try clear x0 x1 x2 x3 x4 x5 x6 x7 x8); obtain ⟨x0, x1, x2, x3, x4, x5, x6, x7, x8⟩ := HB.out.cells)
    | (go_at_call 22; refine (ref02_Right_calls _ _ _ _).mono ?_; rintro e wb ⟨rfl, hb⟩; replace HB := Lib.hid (HB.out.keep hb); clear hb; (try clear x0 x1 x2 x3 x4 x5 x6 x7 x8); obtain ⟨x0, x1, x2, x3, x4, x5, x6, x7, x8⟩ := HB.out.cells)
    | (go_at_call 23; clear p1; refine (ref02_Bytes_calls kl nl sl _ H1.out.1 H1.out.2 hl).mono ?_; rintro e wb ⟨vb, rfl, hR, hb⟩; have q1 := str_R hR (Below.refl _ _); clear hR; replace HB := Lib.hid (HB.out.keep hb); clear hb; (try clear x0 x1 x2 x3 x4 x5 x6 x7 x8); obtain ⟨x0, x1, x2, x3, x4, x5, x6, x7, x8⟩ := HB.out.cells)
    | (go_at_call 23; clear q1; refine (ref02_Bytes_calls kh nh sh _ H2.out.1 H2.out.2 hh).mono ?_; rintro e wb ⟨vb2, rfl, hR, hb⟩; have q1 := str_R hR (Below.refl _ _); clear hR; replace HB := Lib.hid (HB.out.keep hb); clear hb; (try clear x0 x1 x2 x3 x4 x5 x6 x7 x8); obtain ⟨x0, x1, x2, x3, x4, x5, x6, x7, x8⟩ := HB.out.cells)
    | (go_at_call 24; clear p2; refine (HC1.out _).mono ?_; rintro e wb ⟨rfl, hb⟩; replace HB := Lib.hid (HB.out.keep hb); clear hb; (try clear x0 x1 x2 x3 x4 x5 x6 x7 x8); obtain ⟨x0, x1, x2, x3, x4, x5, x6, x7, x8⟩ := HB.out.cells)
    | (go_at_call 24; refine (HC2.out _).mono ?_; rintro e wb ⟨rfl, hb⟩; replace HB := Lib.hid (HB.out.keep hb); clear hb; (try clear x0 x1 x2 x3 x4 x5 x6 x7 x8); obtain ⟨x0, x1, x2, x3, x4, x5, x6, x7, x8⟩ := HB.out.cells))
  have HI := Lib.hid (ids5_C wb wb.heap.size rfl)
  have HX := Lib.hid (HB.out.keep (below_al wb (.cells #[.int .i64 0, .int .i64 1, .int .i64 255, .int .i64 4294967296, .int .i64 1099511627775] 3)))
  clear x0 x1 x2 x3 x4 x5 x6 x7 x8 q1 HB HC1 HC2
  go_loopw [12] (fun v12 wr => ∃ i : Nat, i ≤ 5 ∧ v12 = .int .i64 i ∧ Hid (Bx3 w #[.int .i64 k, .int .i64 n, .string s] #[.int .i64 kl, .int .i64 nl, .string sl] #[.int .i64 kh, .int .i64 nh, .string sh] 42 wr) ∧ Hid ((Kd.int .i64).C wr (some ⟨wb.heap.size, 0, none⟩) 5 ids5)) (fun v12 _ => 5 - (intOf v12).toNat)
  case atStart => exact ⟨0, by omega, rfl, HX, HI⟩
  case round =>
    obtain ⟨i, hi, rfl, HB, HR⟩ := hrel
    by_cases hlt : i < 5
    · have hlt2 : (i : Int) < 5 := by omega
      have hz5 := five_size (rd ids5 (i : Int))
      have HU := Lib.hid (ids5_range i hlt)
      have p3 : True := trivial
      go_wp2_with fail
      refine wp_region_held_drew (S := (fun w' => Bx3 w #[.int .i64 k, .int .i64 n, .string s] #[.int .i64 kl, .int .i64 nl, .string sl] #[.int .i64 kh, .int .i64 nh, .string sh] 42 w' ∧ (Kd.int .i64).C w' (some ⟨wb.heap.size, 0, none⟩) 5 ids5)) (by kernel_rfl) ?hS3 (fun hH0 => ?_)
      case hS3 => exact ⟨HB.out.keep (below_drew (Below.refl _ _)), Kd.C_below HR.out (below_drew (Below.refl _ _))⟩
      refine takeY (oi := { dst := some 78, op := Op.load 42 (Operand.tmp 3), type := 42, pos := "law.go:110", after := #[], guard := none }) 0 (some 78) (v := ?v0_3) rfl rfl (by kernel_rfl) (by kernel_rfl) (by kernel_rfl) (fun _ _ _ h => h) (by kernel_rfl) ?hy3 hH0 ?_
      case hy3 => (intro w_ hSw; (try dsimp only at hSw); (obtain ⟨x0, x1, x2, x3, x4, x5, x6, x7, x8⟩ := hSw.1.cells; go_simp; (first | done | with_reducible rfl)))
      simp only [Act.put, List.setIfInBounds_toArray, List.set_cons_zero, List.set_cons_succ]
      refine takeY (oi := { dst := some 81, op := Op.move (Operand.tmp 11), type := 49, pos := "law.go:110", after := #[], guard := none }) 3 (some 81) (v := ?v3_3) rfl rfl (by kernel_rfl) (by kernel_rfl) (by kernel_rfl) (fun _ _ _ h => h) (by kernel_rfl) ?hy3 hH0 ?_
      case hy3 => (intro w_ hSw; (try dsimp only at hSw); go_simp; (first | done | with_reducible rfl | rw [if_neg (by omega)]))
      simp only [Act.put, List.setIfInBounds_toArray, List.set_cons_zero, List.set_cons_succ]
      refine takeY (oi := { dst := some 82, op := Op.move (Operand.tmp 12), type := 3, pos := "law.go:110", after := #[], guard := none }) 4 (some 82) (v := ?v4_3) rfl rfl (by kernel_rfl) (by kernel_rfl) (by kernel_rfl) (fun _ _ _ h => h) (by kernel_rfl) ?hy3 hH0 ?_
      case hy3 => (intro w_ hSw; (try dsimp only at hSw); go_simp; (first | done | with_reducible rfl | rw [if_neg (by omega)]))
      simp only [Act.put, List.setIfInBounds_toArray, List.set_cons_zero, List.set_cons_succ]
      refine takeY (oi := { dst := some 83, op := Op.indexAddr 49 (Operand.tmp 81) (Operand.tmp 82), type := 0, pos := "law.go:110", after := #[{ on := 3, ground := Ground.data }, { on := 4, ground := Ground.data }], guard := none }) 5 (some 83) (v := ?v5_3) rfl rfl (by kernel_rfl) (by kernel_rfl) (by kernel_rfl) (fun _ _ _ h => h) (by kernel_rfl) ?hy3 hH0 ?_
      case hy3 => (intro w_ hSw; (try dsimp only at hSw); (go_simp; (first | done | with_reducible rfl | rw [if_neg (by omega)])))
      simp only [Act.put, List.setIfInBounds_toArray, List.set_cons_zero, List.set_cons_succ]
      refine takeY (oi := { dst := some 84, op := Op.load 3 (Operand.tmp 83), type := 3, pos := "law.go:110", after := #[{ on := 5, ground := Ground.data }], guard := none }) 6 (some 84) (v := ?v6_3) rfl rfl (by kernel_rfl) (by kernel_rfl) (by kernel_rfl) (fun _ _ _ h => h) (by kernel_rfl) ?hy3 hH0 ?_
      case hy3 => (intro w_ hSw; (try dsimp only at hSw); (obtain ⟨ad, e, g0⟩ := Kd.at_int (show (Kd.int .i64).C w_ (some ⟨wb.heap.size, 0, none⟩) 5 ids5 from by first | exact hSw.2 | exact hSw.1.2) (i : Int) (by omega) (by omega); cases e; rw [add_plain, Int.toNat_natCast] at g0; go_simp; (first | done | with_reducible rfl)))
      simp only [Act.put, List.setIfInBounds_toArray, List.set_cons_zero, List.set_cons_succ]
      refine wpAnyH_ready (rs := [1]) (by kernel_rfl) (by simp) ?_
      refine AllReadyH.cons (o := { dst := some 79, op := Op.call { callee := Callee.value (Operand.func 23), args := #[Operand.tmp 78], argTypes := #[42] }, type := 46, pos := "law.go:110", after := #[{ on := 0, ground := Ground.data }], guard := none }) rfl (fun K1 hK1 => ?_) AllReadyH.nil
      go_simp; refine (ref02_Bytes_calls k n s _ H0.out.1 H0.out.2 hv).mono ?_; rintro e w2 ⟨v2, rfl, hR2, hb2⟩
      refine hK1.out _ _ ?hS3 (fun hH1 => ?_)
      case hS3 => ((try dsimp only); (exact ⟨hH0.1.keep hb2, Kd.C_below hH0.2 hb2⟩))
      clear hK1 K1
      (try clear hH0)
      (try simp only [Act.put, List.setIfInBounds_toArray, List.set_cons_zero, List.set_cons_succ])
      refine wpAnyH_stronger (S2 := (fun w' => (Bx3 w #[.int .i64 k, .int .i64 n, .string s] #[.int .i64 kl, .int .i64 nl, .string sl] #[.int .i64 kh, .int .i64 nh, .string sh] 42 w' ∧ (Kd.int .i64).C w' (some ⟨wb.heap.size, 0, none⟩) 5 ids5) ∧ Below w2.heap.size w2 w')) (fun w_ h_ => h_.1) _ _ _ _ ?_
      replace hH1 := (And.intro hH1 (Below.refl w2.heap.size w2))
      refine takeY (oi := { dst := some 80, op := Op.convert 46 9 (Operand.tmp 79), type := 9, pos := "law.go:110", after := #[{ on := 1, ground := Ground.data }], guard := none }) 2 (some 80) (v := ?v2_3) rfl rfl (by kernel_rfl) (by kernel_rfl) (by kernel_rfl) (fun _ _ _ h => h) (by kernel_rfl) ?hy3 hH1 ?_
      case hy3 => (intro w_ hSw; (try dsimp only at hSw); (have hc := str_R hR2 hSw.2; go_simp; (first | done | with_reducible rfl)))
      simp only [Act.put, List.setIfInBounds_toArray, List.set_cons_zero, List.set_cons_succ]
      refine wpAnyH_ready (rs := [7]) (by kernel_rfl) (by simp) ?_
      refine AllReadyH.cons (o := { dst := some 85, op := Op.call { callee := Callee.value (Operand.func 25), args := #[Operand.tmp 84], argTypes := #[3] }, type := 9, pos := "law.go:110", after := #[{ on := 6, ground := Ground.data }, { on := 1, ground := Ground.chain }], guard := none }) rfl (fun K2 hK2 => ?_) AllReadyH.nil
      go_simp; refine (ref21_Five_calls (rd ids5 (i : Int)) _ HU.out.1 HU.out.2).mono ?_; rintro e w3 ⟨rfl, hb3⟩
      refine hK2.out _ _ ?hS3 (fun hH2 => ?_)
      case hS3 => ((try dsimp only); (exact ⟨⟨hH1.1.1.keep hb3, Kd.C_below hH1.1.2 hb3⟩, keepB0 hb3 hH1.2⟩))
      clear hK2 K2
      (try clear hH1)
      (try simp only [Act.put, List.setIfInBounds_toArray, List.set_cons_zero, List.set_cons_succ])
      refine takeY (oi := { dst := some 86, op := Op.binOp BinOp.add 9 (Operand.tmp 80) (Operand.tmp 85) 9, type := 9, pos := "law.go:110", after := #[{ on := 2, ground := Ground.data }, { on := 7, ground := Ground.data }], guard := none }) 8 (some 86) (v := ?v8_3) rfl rfl (by kernel_rfl) (by kernel_rfl) (by kernel_rfl) (fun _ _ _ h => h) (by kernel_rfl) ?hy3 hH2 ?_
      case hy3 => (intro w_ hSw; (try dsimp only at hSw); go_simp; (first | done | with_reducible rfl | rw [if_neg (by omega)]))
      simp only [Act.put, List.setIfInBounds_toArray, List.set_cons_zero, List.set_cons_succ]
      refine takeY (oi := { dst := some 13, op := Op.assign (Operand.tmp 86), type := 9, pos := "law.go:110", after := #[{ on := 8, ground := Ground.data }, { on := 7, ground := Ground.chain }, { on := 0, ground := Ground.phase }, { on := 1, ground := Ground.phase }, { on := 2, ground := Ground.phase }, { on := 3, ground := Ground.phase }, { on := 4, ground := Ground.phase }, { on := 5, ground := Ground.phase }, { on := 6, ground := Ground.phase }, { on := 7, ground := Ground.phase }, { on := 8, ground := Ground.phase }], guard := none }) 9 (some 13) (v := ?v9_3) rfl rfl (by kernel_rfl) (by kernel_rfl) (by kernel_rfl) (fun _ _ _ h => h) (by kernel_rfl) ?hy3 hH2 ?_
      case hy3 => (intro w_ hSw; (try dsimp only at hSw); go_simp; (first | done | with_reducible rfl | rw [if_neg (by omega)]))
      simp only [Act.put, List.setIfInBounds_toArray, List.set_cons_zero, List.set_cons_succ]
      refine wpAnyH_done (by kernel_rfl) ?_ _
      have hEnd := hH2
      clear hH2
      have HE := Lib.hid hEnd.1
      clear hEnd
      go_wp2_with (first
        | (go_at_call 26; clear p3; refine (HO1.out (rd ids5 (i : Int)) _).mono ?_; rintro e wo ⟨o, rfl, ho, hq⟩; replace HE := Lib.hid (And.intro (HE.out.1.keep (quiet_below hq _)) (Kd.C_below HE.out.2 (quiet_below hq _))); clear hq)
        | (go_at_call 26; refine (HO2.out (rd ids5 (i : Int)) _).mono ?_; rintro e wo ⟨o2, rfl, ho2, hq⟩; replace HE := Lib.hid (And.intro (HE.out.1.keep (quiet_below hq _)) (Kd.C_below HE.out.2 (quiet_below hq _))); clear hq))
      go_roundw
      case rel => exact ⟨i + 1, by omega, by go_num, Lib.hid HE.out.1, Lib.hid HE.out.2⟩
      case measure => simp [intOf]; omega
    · have hlt2 : ¬ (i : Int) < 5 := by omega
      go_wp2
      go_ret
      exact ⟨rfl, HB.out.2.2.2⟩

set_option maxRecDepth 100000 in
set_option maxHeartbeats 8000000 in
theorem law21_WebSpans_tt (k n kl nl kh nh : Int) (s sl sh : ByteArray) (w : World) (h0 : rng n) (h1 : rng nl) (h2 : rng nh) (hl : valOk kl nl sl = true) (hh : valOk kh nh sh = true) (hv : valOk k n s = true) (hb1 : decide (0 ≤ cmpV k n s kl nl sl) = true) (hb2 : decide (cmpV k n s kh nh sh ≤ 0) = true) :
    Calls Try.prog 4 #[.agg #[.int .i64 k, .int .i64 n, .string s], .agg #[.int .i64 kl, .int .i64 nl, .string sl], .agg #[.int .i64 kh, .int .i64 nh, .string sh]] w fun e w' => e = .returned (.bool true) ∧ Below w.heap.size w w' := by
  have HN := Lib.hid (Bx3.new w #[.int .i64 k, .int .i64 n, .string s] #[.int .i64 kl, .int .i64 nl, .string sl] #[.int .i64 kh, .int .i64 nh, .string sh] 42)
  have HS : Hid (∀ W, Calls Try.prog 21 #[.agg #[.int .i64 kl, .int .i64 nl, .string sl], .agg #[.int .i64 kh, .int .i64 nh, .string sh]] W fun e w' => e = .returned (.tuple #[.string (strOfNums (valBytes kl nl sl)), .string (strOfNums (valBytes kh nh sh) ++ ⟨#[255, 255, 255, 255, 255, 0]⟩), .int .i64 0]) ∧ Below W.heap.size W w') := Lib.hid (fun W => web_Span_yes kl nl kh nh sl sh W h1 h2 hl hh)
  have hvl := valBytes_length (k := kh) (n := nh) (s := sh) hh
  have hvz := strOfNums_size (valBytes kh nh sh)
  have hvl2 := valBytes_length (k := k) (n := n) (s := s) hv
  have hvz2 := strOfNums_size (valBytes k n s)
  have hsz : s.size ≤ 200 ∧ sl.size ≤ 200 ∧ sh.size ≤ 200 := ⟨valOk_size hv, valOk_size hl, valOk_size hh⟩
  obtain ⟨hs0, hs1, hs2⟩ := hsz
  have HO1 := Lib.hid (fun id W => order_low k n kl nl s sl id W h0 h1 hv hl _ hb1)
  have HO2 := Lib.hid (fun id W => order_high k n kh nh s sh id W h0 h2 hv hh _ hb2)
  have HC1 := Lib.hid (fun W => ref02_Compare_calls k n kl nl s sl W (by omega) (by omega))
  have HC2 := Lib.hid (fun W => ref02_Compare_calls k n kh nh s sh W (by omega) (by omega))
  generalize cmpV k n s kl nl sl = o1 at HC1 hb1
  generalize cmpV k n s kh nh sh = o2 at HC2 hb2
  have H0 := Lib.hid h0
  have H1 := Lib.hid h1
  have H2 := Lib.hid h2
  clear h0 h1 h2
  have p1 : True := trivial
  have p2 : True := trivial
  go_enter Try.func4, Try.ntmps4
  go_wp2_with (first
    | (go_at_call 15; refine (law21_awake_calls _).mono ?_; rintro e wa ⟨rfl, hb⟩; have HB := Lib.hid (HN.out.keep hb); clear hb HN; obtain ⟨x0, x1, x2, x3, x4, x5, x6, x7, x8⟩ := HB.out.cells)
    | (go_at_call 21; refine (HS.out _).mono ?_; rintro e wb ⟨rfl, hb⟩; replace HB := Lib.hid (HB.out.keep hb); clear hb; (try clear x0 x1 x2 x3 x4 x5 x6 x7 x8); obtain ⟨x0, x1, x2, x3, x4, x5, x6, x7, x8⟩ := HB.out.cells)
    | (go_at_call 22; refine (ref02_Right_calls _ _ _ _).mono ?_; rintro e wb ⟨rfl, hb⟩; replace HB := Lib.hid (HB.out.keep hb); clear hb; (try clear x0 x1 x2 x3 x4 x5 x6 x7 x8); obtain ⟨x0, x1, x2, x3, x4, x5, x6, x7, x8⟩ := HB.out.cells)
    | (go_at_call 23; clear p1; refine (ref02_Bytes_calls kl nl sl _ H1.out.1 H1.out.2 hl).mono ?_; rintro e wb ⟨vb, rfl, hR, hb⟩; have q1 := str_R hR (Below.refl _ _); clear hR; replace HB := Lib.hid (HB.out.keep hb); clear hb; (try clear x0 x1 x2 x3 x4 x5 x6 x7 x8); obtain ⟨x0, x1, x2, x3, x4, x5, x6, x7, x8⟩ := HB.out.cells)
    | (go_at_call 23; clear q1; refine (ref02_Bytes_calls kh nh sh _ H2.out.1 H2.out.2 hh).mono ?_; rintro e wb ⟨vb2, rfl, hR, hb⟩; have q1 := str_R hR (Below.refl _ _); clear hR; replace HB := Lib.hid (HB.out.keep hb); clear hb; (try clear x0 x1 x2 x3 x4 x5 x6 x7 x8); obtain ⟨x0, x1, x2, x3, x4, x5, x6, x7, x8⟩ := HB.out.cells)
    | (go_at_call 24; clear p2; refine (HC1.out _).mono ?_; rintro e wb ⟨rfl, hb⟩; replace HB := Lib.hid (HB.out.keep hb); clear hb; (try clear x0 x1 x2 x3 x4 x5 x6 x7 x8); obtain ⟨x0, x1, x2, x3, x4, x5, x6, x7, x8⟩ := HB.out.cells)
    | (go_at_call 24; refine (HC2.out _).mono ?_; rintro e wb ⟨rfl, hb⟩; replace HB := Lib.hid (HB.out.keep hb); clear hb; (try clear x0 x1 x2 x3 x4 x5 x6 x7 x8); obtain ⟨x0, x1, x2, x3, x4, x5, x6, x7, x8⟩ := HB.out.cells))
  have HI := Lib.hid (ids5_C wb wb.heap.size rfl)
  have HX := Lib.hid (HB.out.keep (below_al wb (.cells #[.int .i64 0, .int .i64 1, .int .i64 255, .int .i64 4294967296, .int .i64 1099511627775] 3)))
  clear x0 x1 x2 x3 x4 x5 x6 x7 x8 q1 HB HC1 HC2
  go_loopw [12] (fun v12 wr => ∃ i : Nat, i ≤ 5 ∧ v12 = .int .i64 i ∧ Hid (Bx3 w #[.int .i64 k, .int .i64 n, .string s] #[.int .i64 kl, .int .i64 nl, .string sl] #[.int .i64 kh, .int .i64 nh, .string sh] 42 wr) ∧ Hid ((Kd.int .i64).C wr (some ⟨wb.heap.size, 0, none⟩) 5 ids5)) (fun v12 _ => 5 - (intOf v12).toNat)
  case atStart => exact ⟨0, by omega, rfl, HX, HI⟩
  case round =>
    obtain ⟨i, hi, rfl, HB, HR⟩ := hrel
    by_cases hlt : i < 5
    · have hlt2 : (i : Int) < 5 := by omega
      have hz5 := five_size (rd ids5 (i : Int))
      have HU := Lib.hid (ids5_range i hlt)
      have p3 : True := trivial
      go_wp2_with fail
      refine wp_region_held_drew (S := (fun w' => Bx3 w #[.int .i64 k, .int .i64 n, .string s] #[.int .i64 kl, .int .i64 nl, .string sl] #[.int .i64 kh, .int .i64 nh, .string sh] 42 w' ∧ (Kd.int .i64).C w' (some ⟨wb.heap.size, 0, none⟩) 5 ids5)) (by kernel_rfl) ?hS4 (fun hH0 => ?_)
      case hS4 => exact ⟨HB.out.keep (below_drew (Below.refl _ _)), Kd.C_below HR.out (below_drew (Below.refl _ _))⟩
      refine takeY (oi := { dst := some 78, op := Op.load 42 (Operand.tmp 3), type := 42, pos := "law.go:110", after := #[], guard := none }) 0 (some 78) (v := ?v0_4) rfl rfl (by kernel_rfl) (by kernel_rfl) (by kernel_rfl) (fun _ _ _ h => h) (by kernel_rfl) ?hy4 hH0 ?_
      case hy4 => (intro w_ hSw; (try dsimp only at hSw); (obtain ⟨x0, x1, x2, x3, x4, x5, x6, x7, x8⟩ := hSw.1.cells; go_simp; (first | done | with_reducible rfl)))
      simp only [Act.put, List.setIfInBounds_toArray, List.set_cons_zero, List.set_cons_succ]
      refine takeY (oi := { dst := some 81, op := Op.move (Operand.tmp 11), type := 49, pos := "law.go:110", after := #[], guard := none }) 3 (some 81) (v := ?v3_4) rfl rfl (by kernel_rfl) (by kernel_rfl) (by kernel_rfl) (fun _ _ _ h => h) (by kernel_rfl) ?hy4 hH0 ?_
      case hy4 => (intro w_ hSw; (try dsimp only at hSw); go_simp; (first | done | with_reducible rfl | rw [if_neg (by omega)]))
      simp only [Act.put, List.setIfInBounds_toArray, List.set_cons_zero, List.set_cons_succ]
      refine takeY (oi := { dst := some 82, op := Op.move (Operand.tmp 12), type := 3, pos := "law.go:110", after := #[], guard := none }) 4 (some 82) (v := ?v4_4) rfl rfl (by kernel_rfl) (by kernel_rfl) (by kernel_rfl) (fun _ _ _ h => h) (by kernel_rfl) ?hy4 hH0 ?_
      case hy4 => (intro w_ hSw; (try dsimp only at hSw); go_simp; (first | done | with_reducible rfl | rw [if_neg (by omega)]))
      simp only [Act.put, List.setIfInBounds_toArray, List.set_cons_zero, List.set_cons_succ]
      refine takeY (oi := { dst := some 83, op := Op.indexAddr 49 (Operand.tmp 81) (Operand.tmp 82), type := 0, pos := "law.go:110", after := #[{ on := 3, ground := Ground.data }, { on := 4, ground := Ground.data }], guard := none }) 5 (some 83) (v := ?v5_4) rfl rfl (by kernel_rfl) (by kernel_rfl) (by kernel_rfl) (fun _ _ _ h => h) (by kernel_rfl) ?hy4 hH0 ?_
      case hy4 => (intro w_ hSw; (try dsimp only at hSw); (go_simp; (first | done | with_reducible rfl | rw [if_neg (by omega)])))
      simp only [Act.put, List.setIfInBounds_toArray, List.set_cons_zero, List.set_cons_succ]
      refine takeY (oi := { dst := some 84, op := Op.load 3 (Operand.tmp 83), type := 3, pos := "law.go:110", after := #[{ on := 5, ground := Ground.data }], guard := none }) 6 (some 84) (v := ?v6_4) rfl rfl (by kernel_rfl) (by kernel_rfl) (by kernel_rfl) (fun _ _ _ h => h) (by kernel_rfl) ?hy4 hH0 ?_
      case hy4 => (intro w_ hSw; (try dsimp only at hSw); (obtain ⟨ad, e, g0⟩ := Kd.at_int (show (Kd.int .i64).C w_ (some ⟨wb.heap.size, 0, none⟩) 5 ids5 from by first | exact hSw.2 | exact hSw.1.2) (i : Int) (by omega) (by omega); cases e; rw [add_plain, Int.toNat_natCast] at g0; go_simp; (first | done | with_reducible rfl)))
      simp only [Act.put, List.setIfInBounds_toArray, List.set_cons_zero, List.set_cons_succ]
      refine wpAnyH_ready (rs := [1]) (by kernel_rfl) (by simp) ?_
      refine AllReadyH.cons (o := { dst := some 79, op := Op.call { callee := Callee.value (Operand.func 23), args := #[Operand.tmp 78], argTypes := #[42] }, type := 46, pos := "law.go:110", after := #[{ on := 0, ground := Ground.data }], guard := none }) rfl (fun K1 hK1 => ?_) AllReadyH.nil
      go_simp; refine (ref02_Bytes_calls k n s _ H0.out.1 H0.out.2 hv).mono ?_; rintro e w2 ⟨v2, rfl, hR2, hb2⟩
      refine hK1.out _ _ ?hS4 (fun hH1 => ?_)
      case hS4 => ((try dsimp only); (exact ⟨hH0.1.keep hb2, Kd.C_below hH0.2 hb2⟩))
      clear hK1 K1
      (try clear hH0)
      (try simp only [Act.put, List.setIfInBounds_toArray, List.set_cons_zero, List.set_cons_succ])
      refine wpAnyH_stronger (S2 := (fun w' => (Bx3 w #[.int .i64 k, .int .i64 n, .string s] #[.int .i64 kl, .int .i64 nl, .string sl] #[.int .i64 kh, .int .i64 nh, .string sh] 42 w' ∧ (Kd.int .i64).C w' (some ⟨wb.heap.size, 0, none⟩) 5 ids5) ∧ Below w2.heap.size w2 w')) (fun w_ h_ => h_.1) _ _ _ _ ?_
      replace hH1 := (And.intro hH1 (Below.refl w2.heap.size w2))
      refine takeY (oi := { dst := some 80, op := Op.convert 46 9 (Operand.tmp 79), type := 9, pos := "law.go:110", after := #[{ on := 1, ground := Ground.data }], guard := none }) 2 (some 80) (v := ?v2_4) rfl rfl (by kernel_rfl) (by kernel_rfl) (by kernel_rfl) (fun _ _ _ h => h) (by kernel_rfl) ?hy4 hH1 ?_
      case hy4 => (intro w_ hSw; (try dsimp only at hSw); (have hc := str_R hR2 hSw.2; go_simp; (first | done | with_reducible rfl)))
      simp only [Act.put, List.setIfInBounds_toArray, List.set_cons_zero, List.set_cons_succ]
      refine wpAnyH_ready (rs := [7]) (by kernel_rfl) (by simp) ?_
      refine AllReadyH.cons (o := { dst := some 85, op := Op.call { callee := Callee.value (Operand.func 25), args := #[Operand.tmp 84], argTypes := #[3] }, type := 9, pos := "law.go:110", after := #[{ on := 6, ground := Ground.data }, { on := 1, ground := Ground.chain }], guard := none }) rfl (fun K2 hK2 => ?_) AllReadyH.nil
      go_simp; refine (ref21_Five_calls (rd ids5 (i : Int)) _ HU.out.1 HU.out.2).mono ?_; rintro e w3 ⟨rfl, hb3⟩
      refine hK2.out _ _ ?hS4 (fun hH2 => ?_)
      case hS4 => ((try dsimp only); (exact ⟨⟨hH1.1.1.keep hb3, Kd.C_below hH1.1.2 hb3⟩, keepB0 hb3 hH1.2⟩))
      clear hK2 K2
      (try clear hH1)
      (try simp only [Act.put, List.setIfInBounds_toArray, List.set_cons_zero, List.set_cons_succ])
      refine takeY (oi := { dst := some 86, op := Op.binOp BinOp.add 9 (Operand.tmp 80) (Operand.tmp 85) 9, type := 9, pos := "law.go:110", after := #[{ on := 2, ground := Ground.data }, { on := 7, ground := Ground.data }], guard := none }) 8 (some 86) (v := ?v8_4) rfl rfl (by kernel_rfl) (by kernel_rfl) (by kernel_rfl) (fun _ _ _ h => h) (by kernel_rfl) ?hy4 hH2 ?_
      case hy4 => (intro w_ hSw; (try dsimp only at hSw); go_simp; (first | done | with_reducible rfl | rw [if_neg (by omega)]))
      simp only [Act.put, List.setIfInBounds_toArray, List.set_cons_zero, List.set_cons_succ]
      refine takeY (oi := { dst := some 13, op := Op.assign (Operand.tmp 86), type := 9, pos := "law.go:110", after := #[{ on := 8, ground := Ground.data }, { on := 7, ground := Ground.chain }, { on := 0, ground := Ground.phase }, { on := 1, ground := Ground.phase }, { on := 2, ground := Ground.phase }, { on := 3, ground := Ground.phase }, { on := 4, ground := Ground.phase }, { on := 5, ground := Ground.phase }, { on := 6, ground := Ground.phase }, { on := 7, ground := Ground.phase }, { on := 8, ground := Ground.phase }], guard := none }) 9 (some 13) (v := ?v9_4) rfl rfl (by kernel_rfl) (by kernel_rfl) (by kernel_rfl) (fun _ _ _ h => h) (by kernel_rfl) ?hy4 hH2 ?_
      case hy4 => (intro w_ hSw; (try dsimp only at hSw); go_simp; (first | done | with_reducible rfl | rw [if_neg (by omega)]))
      simp only [Act.put, List.setIfInBounds_toArray, List.set_cons_zero, List.set_cons_succ]
      refine wpAnyH_done (by kernel_rfl) ?_ _
      have hEnd := hH2
      clear hH2
      have HE := Lib.hid hEnd.1
      clear hEnd
      go_wp2_with (first
        | (go_at_call 26; clear p3; refine (HO1.out (rd ids5 (i : Int)) _).mono ?_; rintro e wo ⟨o, rfl, ho, hq⟩; replace HE := Lib.hid (And.intro (HE.out.1.keep (quiet_below hq _)) (Kd.C_below HE.out.2 (quiet_below hq _))); clear hq)
        | (go_at_call 26; refine (HO2.out (rd ids5 (i : Int)) _).mono ?_; rintro e wo ⟨o2, rfl, ho2, hq⟩; replace HE := Lib.hid (And.intro (HE.out.1.keep (quiet_below hq _)) (Kd.C_below HE.out.2 (quiet_below hq _))); clear hq))
      go_roundw
      case rel => exact ⟨i + 1, by omega, by go_num, Lib.hid HE.out.1, Lib.hid HE.out.2⟩
      case measure => simp [intOf]; omega
    · have hlt2 : ¬ (i : Int) < 5 := by omega
      go_wp2
      go_ret
      exact ⟨rfl, HB.out.2.2.2⟩


theorem law21_WebSpans_calls (k n kl nl kh nh : Int) (s sl sh : ByteArray) (w : World) (h0 : rng n) (h1 : rng nl) (h2 : rng nh) :
    Calls Try.prog 4 #[.agg #[.int .i64 k, .int .i64 n, .string s], .agg #[.int .i64 kl, .int .i64 nl, .string sl], .agg #[.int .i64 kh, .int .i64 nh, .string sh]] w fun e w' => e = .returned (.bool true) ∧ Below w.heap.size w w' := by
  cases hl : valOk kl nl sl with
  | false => exact law21_WebSpans_no k n kl nl kh nh s sl sh w h1 h2 (.inl hl)
  | true =>
  cases hh : valOk kh nh sh with
  | false => exact law21_WebSpans_no k n kl nl kh nh s sl sh w h1 h2 (.inr ⟨hl, hh⟩)
  | true =>
  cases hv : valOk k n s with
  | false => exact law21_WebSpans_odd k n kl nl kh nh s sl sh w h1 h2 hl hh hv
  | true =>
  cases hb1 : decide (0 ≤ cmpV k n s kl nl sl) with
  | false =>
    cases hb2 : decide (cmpV k n s kh nh sh ≤ 0) with
    | false => exact law21_WebSpans_ff k n kl nl kh nh s sl sh w h0 h1 h2 hl hh hv hb1 hb2
    | true => exact law21_WebSpans_ft k n kl nl kh nh s sl sh w h0 h1 h2 hl hh hv hb1 hb2
  | true =>
    cases hb2 : decide (cmpV k n s kh nh sh ≤ 0) with
    | false => exact law21_WebSpans_tf k n kl nl kh nh s sl sh w h0 h1 h2 hl hh hv hb1 hb2
    | true => exact law21_WebSpans_tt k n kl nl kh nh s sl sh w h0 h1 h2 hl hh hv hb1 hb2
end Go.Proofs.Ytonbnlfijmapfaa
