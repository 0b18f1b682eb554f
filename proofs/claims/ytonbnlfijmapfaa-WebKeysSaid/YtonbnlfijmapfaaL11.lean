/- web.five, web.text, VertexText, LabelIndex, ValueIndex. -/
import Derived.Test.YtonbnlfijmapfaaL8
import Derived.Test.YtonbnlfijmapfaaL10
namespace Go.Proofs.Ytonbnlfijmapfaa
open Go.RowKit Go.Shelf Go.Proofs.YtonbnlfijmapfaaW.PrintWords
set_option linter.unusedVariables false
set_option linter.unusedSimpArgs false

set_option maxHeartbeats 1000000 in
theorem web_LabelIndex_calls (s : ByteArray) (w : World) (hs : s.size ≤ 1000000) :
    Calls Try.prog 33 #[.string s] w fun e w' => e = .returned (.string (strOfNums [76] ++ s)) ∧ w = w' := by
  go_enter Try.func33, Try.ntmps33
  go_wp2
  go_ret
  exact ⟨rfl, rfl⟩

set_option maxHeartbeats 1000000 in
theorem web_ValueIndex_calls (s t : ByteArray) (w : World) (hs : s.size ≤ 1000000) (ht : t.size ≤ 1000000) :
    Calls Try.prog 34 #[.string s, .string t] w fun e w' => e = .returned (.string (strOfNums [80] ++ s ++ strOfNums [32] ++ t)) ∧ w = w' := by
  go_enter Try.func34, Try.ntmps34
  go_wp2
  go_ret
  exact ⟨rfl, rfl⟩

theorem str_box5 (a b c d e : Int) (W : World) : (convert 46 9 (.slice (some ⟨W.heap.size, 0, none⟩) 5 5)).run Try.prog (W.alloc (.cells #[.int .u8 a, .int .u8 b, .int .u8 c, .int .u8 d, .int .u8 e] 5)) = .ok (.string (strOfNums [a, b, c, d, e])) (W.alloc (.cells #[.int .u8 a, .int .u8 b, .int .u8 c, .int .u8 d, .int .u8 e] 5)) :=
  Kd.C_string Try.underlying46 Try.underlying5 Try.underlying9 (C_boxes [a, b, c, d, e] .u8 (by simp))
theorem str_box1 (a : Int) (W : World) : (convert 46 9 (.slice (some ⟨W.heap.size, 0, none⟩) 1 1)).run Try.prog (W.alloc (.cells #[.int .u8 a] 5)) = .ok (.string (strOfNums [a])) (W.alloc (.cells #[.int .u8 a] 5)) :=
  Kd.C_string Try.underlying46 Try.underlying5 Try.underlying9 (C_boxes [a] .u8 (by simp))
theorem str_R {W W' : World} {base : Nat} {ok : Nat → Prop} {v : Value} {xs : List Int} (h : (Kd.int .u8).R 5 W base ok v xs) (hb : Below W.heap.size W W') : (convert 46 9 v).run Try.prog W' = .ok (.string (strOfNums xs)) W' := by
  obtain ⟨A, c, rfl, -, hC⟩ := Kd.R_reads h
  exact Kd.C_string Try.underlying46 Try.underlying5 Try.underlying9 (Kd.C_below hC hb)
theorem propsBytes_size {l : List SPrp} (hr : propsRight l = true) (hf : fits l) : (propsBytes l).length ≤ 2000000 := by
  obtain ⟨h1, h2⟩ := propsRight_ok hr
  have := flat_length l (fun p hp => (h1 p hp).2) hf
  simp only [propsBytes, List.length_cons]
  omega
def fiveBytes (n : Int) : List Int := [n / 4294967296 % 256, n / 16777216 % 256, n / 65536 % 256, n / 256 % 256, n % 256]
set_option maxRecDepth 100000 in
set_option maxHeartbeats 1000000 in
theorem web_five_calls (n : Int) (w : World) :
    Calls Try.prog 71 #[.int .i64 n] w fun e w' => e = .returned (.string (strOfNums (fiveBytes n))) ∧ Below w.heap.size w w' := by
  have q := str_box5
  go_enter Try.func71, Try.ntmps71
  go_wp2
  go_ret
  exact ⟨rfl, below_al _ _⟩

/-- A label and properties, as a text. -/
def bodyText (label : ByteArray) (ps : List SPrp) : ByteArray := strOfNums [(label.size : Int) % 256] ++ label ++ strOfNums (propsBytes ps)
set_option maxRecDepth 100000 in
set_option maxHeartbeats 1000000 in
theorem web_text_calls (s : ByteArray) (A : Option Addr) (c : Nat) (l : List SPrp) (w : World) (hs : s.size ≤ 100000) (h : kPrp.C w A l.length l) (hf : fits l) (hg : ranged l) (hr : propsRight l = true) :
    Calls Try.prog 69 #[.string s, .slice A l.length c] w fun e w' => e = .returned (.string (bodyText s l)) ∧ Below w.heap.size w w' := by
  have q := str_box1
  have hps := propsBytes_size hr hf
  have hps2 := strOfNums_size (propsBytes l)
  have hps3 := strOfNums_size [(s.size : Int) % 256]
  have HX := Lib.hid h; clear h
  have HF := Lib.hid hf; clear hf
  have HG := Lib.hid hg; clear hg
  go_enter Try.func69, Try.ntmps69
  go_wp2_with (go_at_call 104; refine (props_Bytes_calls _ _ _ _ HX.out HF.out HG.out hr).mono ?_; rintro e w1 ⟨v1, rfl, hR1, hb1⟩; have HR1 := Lib.hid hR1; have HB1 := Lib.hid hb1; have q2 := fun o => str_R hR1 (below_al w1 o); clear hR1 hb1)
  go_ret
  exact ⟨ret_str rfl, keepB0 (below_al _ _) HB1.out⟩

theorem checkN_ok {label : ByteArray} {ps : List SPrp} {ids : List Int} (h : checkN label ps ids = 0) : ids.all idOk = true ∧ nameRight label = true ∧ propsRight ps = true := by
  unfold checkN at h
  split at h
  · split at h
    · split at h
      · exact ⟨by assumption, by assumption, by assumption⟩
      · cases h
    · cases h
  · cases h

/-- A vertex' text and the error. -/
def vertexText (id : Int) (label : ByteArray) (ps : List SPrp) : ByteArray := if checkN label ps [id] = 0 then bodyText label ps else ⟨#[]⟩
set_option maxRecDepth 100000 in
set_option maxHeartbeats 1000000 in
theorem web_VertexText_calls (id : Int) (s : ByteArray) (A : Option Addr) (c : Nat) (l : List SPrp) (w : World) (hs : s.size ≤ 100000) (h : kPrp.C w A l.length l) (hf : fits l) (hg : ranged l) :
    Calls Try.prog 17 #[.agg #[.int .i64 id, .string s, .slice A l.length c]] w fun e w' => e = .returned (.tuple #[.string (vertexText id s l), .int .i64 (checkN s l [id])]) ∧ Below w.heap.size w w' := by
  have HX := Lib.hid h; clear h
  have HF := Lib.hid hf; clear hf
  have HG := Lib.hid hg; clear hg
  by_cases hc : checkN s l [id] = 0
  · have hr := (checkN_ok hc).2.2
    go_enter Try.func17, Try.ntmps17
    go_wp2_with (first
      | (go_at_call 46; refine (graph_Check_calls _ _ _ _ 1 l [id] _ hs ?hP HF.out ?hI).mono ?_; (case hP => exact Kd.C_below HX.out (keepB0 (below_al _ _) (below_al w _))); (case hI => exact C_boxg (Kd.int .i64) (by decide) _ _ (by simp) id #[.int .i64 id] _ rfl); rw [hc]; rintro e w1 ⟨rfl, hb1⟩; have c1 : w1.cell? ⟨w.heap.size, 1, none⟩ = some (.string s) := blk_cell (blk_below hb1 (blk_alloc (blk_new w _ 24) _)) 1; have c2 : w1.cell? ⟨w.heap.size, 2, none⟩ = some (.slice A l.length c) := blk_cell (blk_below hb1 (blk_alloc (blk_new w _ 24) _)) 2; have HB1 := Lib.hid (keepB0 hb1 (keepB0 (below_al _ _) (below_al w _))); clear hb1)
      | (go_at_call 69; refine (web_text_calls _ _ _ _ _ hs (Kd.C_below HX.out HB1.out) HF.out HG.out hr).mono ?_; rintro e w2 ⟨rfl, hb2⟩))
    go_ret2
    exact ⟨by rw [vertexText, if_pos hc, hc]; rfl, keepB0 hb2 HB1.out⟩
  · go_enter Try.func17, Try.ntmps17
    go_wp2_with (
      (go_at_call 46; refine (graph_Check_calls _ _ _ _ 1 l [id] _ hs ?hP HF.out ?hI).mono ?_; (case hP => exact Kd.C_below HX.out (keepB0 (below_al _ _) (below_al w _))); (case hI => exact C_boxg (Kd.int .i64) (by decide) _ _ (by simp) id #[.int .i64 id] _ rfl); rintro e w1 ⟨rfl, hb1⟩; have HB1 := Lib.hid (keepB0 hb1 (keepB0 (below_al _ _) (below_al w _))); clear hb1))
    go_ret2
    exact ⟨by rw [vertexText, if_neg hc]; rfl, HB1.out⟩
end Go.Proofs.Ytonbnlfijmapfaa
