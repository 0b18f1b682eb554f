/- web.EdgeText. -/
import Derived.Test.YtonbnlfijmapfaaL11
namespace Go.Proofs.Ytonbnlfijmapfaa
open Go.RowKit Go.Shelf Go.Proofs.YtonbnlfijmapfaaW.PrintWords
set_option linter.unusedVariables false
set_option linter.unusedSimpArgs false

theorem five_size (n : Int) : (strOfNums (fiveBytes n)).size = 5 := strOfNums_size _
theorem body_size {s : ByteArray} {l : List SPrp} (hs : s.size ≤ 100000) (hr : propsRight l = true) (hf : fits l) : (bodyText s l).size ≤ 2200000 := by
  have h1 := propsBytes_size hr hf
  simp only [bodyText, ByteArray.size_append, strOfNums_size, List.length_cons, List.length_nil]
  omega
/-- An edge's text. -/
def edgeText (id : Int) (label : ByteArray) (x y : Int) (ps : List SPrp) : ByteArray := if checkN label ps [id, x, y] = 0 then strOfNums (fiveBytes x) ++ strOfNums (fiveBytes y) ++ bodyText label ps else ⟨#[]⟩
set_option maxRecDepth 100000 in
set_option maxHeartbeats 2000000 in
theorem web_EdgeText_calls (id : Int) (s : ByteArray) (x y : Int) (A : Option Addr) (c : Nat) (l : List SPrp) (w : World) (hs : s.size ≤ 100000) (h : kPrp.C w A l.length l) (hf : fits l) (hg : ranged l) :
    Calls Try.prog 19 #[.agg #[.int .i64 id, .string s, .int .i64 x, .int .i64 y, .slice A l.length c]] w fun e w' => e = .returned (.tuple #[.string (edgeText id s x y l), .int .i64 (checkN s l [id, x, y])]) ∧ Below w.heap.size w w' := by
  have HX := Lib.hid h; clear h
  have HF := Lib.hid hf; clear hf
  have HG := Lib.hid hg; clear hg
  by_cases hc : checkN s l [id, x, y] = 0
  · have hr := (checkN_ok hc).2.2
    have z1 := five_size x
    have z2 := five_size y
    have z3 := body_size hs hr HF.out
    go_enter Try.func19, Try.ntmps19
    go_wp2_with (first
      | (go_at_call 46; refine (graph_Check_calls _ _ _ _ 3 l [id, x, y] _ hs ?hP HF.out ?hI).mono ?_; (case hP => exact Kd.C_below HX.out (keepB0 (below_al _ _) (below_al w _))); (case hI => exact C_boxesg (by simp) [id, x, y] .i64 (by simp)); rw [hc]; rintro e w1 ⟨rfl, hb1⟩; have K1 := Lib.hid (blk_below hb1 (blk_alloc (blk_new w #[.int .i64 id, .string s, .int .i64 x, .int .i64 y, .slice A l.length c] 35) _)); have HB1 := Lib.hid (keepB0 hb1 (keepB0 (below_al _ _) (below_al w _))); clear hb1))
    refine wp_region_held_drew (S := (fun w' => Blk w' w.heap.size #[.int .i64 id, .string s, .int .i64 x, .int .i64 y, .slice A l.length c] 35 ∧ Below w.heap.size w w')) (by kernel_rfl) ?hS7 (fun hH0 => ?_)
    case hS7 => exact ⟨blk_drew K1.out, below_drew HB1.out⟩
    refine takeY (oi := { dst := some 20, op := Op.fieldAddr 35 (Operand.tmp 1) 2, type := 0, pos := "web.go:127", after := #[], guard := none }) 0 (some 20) (v := ?v0_7) rfl rfl (by kernel_rfl) (by kernel_rfl) (by kernel_rfl) (fun _ _ _ h => h) (by kernel_rfl) ?hy7 hH0 ?_
    case hy7 => (intro w_ hSw; (try dsimp only at hSw); go_simp; (first | done | with_reducible rfl | rw [if_neg (by omega)]))
    simp only [Act.put, List.setIfInBounds_toArray, List.set_cons_zero, List.set_cons_succ]
    refine takeY (oi := { dst := some 21, op := Op.load 3 (Operand.tmp 20), type := 3, pos := "web.go:127", after := #[{ on := 0, ground := Ground.data }], guard := none }) 1 (some 21) (v := ?v1_7) rfl rfl (by kernel_rfl) (by kernel_rfl) (by kernel_rfl) (fun _ _ _ h => h) (by kernel_rfl) ?hy7 hH0 ?_
    case hy7 => (intro w_ hSw; (try dsimp only at hSw); (have hc := blk_cell hSw.1 2; go_simp; (first | done | with_reducible rfl)))
    simp only [Act.put, List.setIfInBounds_toArray, List.set_cons_zero, List.set_cons_succ]
    refine takeY (oi := { dst := some 23, op := Op.fieldAddr 35 (Operand.tmp 1) 3, type := 0, pos := "web.go:127", after := #[], guard := none }) 3 (some 23) (v := ?v3_7) rfl rfl (by kernel_rfl) (by kernel_rfl) (by kernel_rfl) (fun _ _ _ h => h) (by kernel_rfl) ?hy7 hH0 ?_
    case hy7 => (intro w_ hSw; (try dsimp only at hSw); go_simp; (first | done | with_reducible rfl | rw [if_neg (by omega)]))
    simp only [Act.put, List.setIfInBounds_toArray, List.set_cons_zero, List.set_cons_succ]
    refine takeY (oi := { dst := some 24, op := Op.load 3 (Operand.tmp 23), type := 3, pos := "web.go:127", after := #[{ on := 3, ground := Ground.data }], guard := none }) 4 (some 24) (v := ?v4_7) rfl rfl (by kernel_rfl) (by kernel_rfl) (by kernel_rfl) (fun _ _ _ h => h) (by kernel_rfl) ?hy7 hH0 ?_
    case hy7 => (intro w_ hSw; (try dsimp only at hSw); (have hc := blk_cell hSw.1 3; go_simp; (first | done | with_reducible rfl)))
    simp only [Act.put, List.setIfInBounds_toArray, List.set_cons_zero, List.set_cons_succ]
    refine takeY (oi := { dst := some 27, op := Op.fieldAddr 35 (Operand.tmp 1) 1, type := 0, pos := "web.go:127", after := #[], guard := none }) 7 (some 27) (v := ?v7_7) rfl rfl (by kernel_rfl) (by kernel_rfl) (by kernel_rfl) (fun _ _ _ h => h) (by kernel_rfl) ?hy7 hH0 ?_
    case hy7 => (intro w_ hSw; (try dsimp only at hSw); go_simp; (first | done | with_reducible rfl | rw [if_neg (by omega)]))
    simp only [Act.put, List.setIfInBounds_toArray, List.set_cons_zero, List.set_cons_succ]
    refine takeY (oi := { dst := some 28, op := Op.load 9 (Operand.tmp 27), type := 9, pos := "web.go:127", after := #[{ on := 7, ground := Ground.data }], guard := none }) 8 (some 28) (v := ?v8_7) rfl rfl (by kernel_rfl) (by kernel_rfl) (by kernel_rfl) (fun _ _ _ h => h) (by kernel_rfl) ?hy7 hH0 ?_
    case hy7 => (intro w_ hSw; (try dsimp only at hSw); (have hc := blk_cell hSw.1 1; go_simp; (first | done | with_reducible rfl)))
    simp only [Act.put, List.setIfInBounds_toArray, List.set_cons_zero, List.set_cons_succ]
    refine takeY (oi := { dst := some 29, op := Op.fieldAddr 35 (Operand.tmp 1) 4, type := 0, pos := "web.go:127", after := #[], guard := none }) 9 (some 29) (v := ?v9_7) rfl rfl (by kernel_rfl) (by kernel_rfl) (by kernel_rfl) (fun _ _ _ h => h) (by kernel_rfl) ?hy7 hH0 ?_
    case hy7 => (intro w_ hSw; (try dsimp only at hSw); go_simp; (first | done | with_reducible rfl | rw [if_neg (by omega)]))
    simp only [Act.put, List.setIfInBounds_toArray, List.set_cons_zero, List.set_cons_succ]
    refine takeY (oi := { dst := some 30, op := Op.load 22 (Operand.tmp 29), type := 22, pos := "web.go:127", after := #[{ on := 9, ground := Ground.data }], guard := none }) 10 (some 30) (v := ?v10_7) rfl rfl (by kernel_rfl) (by kernel_rfl) (by kernel_rfl) (fun _ _ _ h => h) (by kernel_rfl) ?hy7 hH0 ?_
    case hy7 => (intro w_ hSw; (try dsimp only at hSw); (have hc := blk_cell hSw.1 4; go_simp; (first | done | with_reducible rfl)))
    simp only [Act.put, List.setIfInBounds_toArray, List.set_cons_zero, List.set_cons_succ]
    refine wpAnyH_ready (rs := [2]) (by kernel_rfl) (by simp) ?_
    refine AllReadyH.cons (o := { dst := some 22, op := Op.call { callee := Callee.value (Operand.func 71), args := #[Operand.tmp 21], argTypes := #[3] }, type := 9, pos := "web.go:127", after := #[{ on := 1, ground := Ground.data }], guard := none }) rfl (fun K1 hK1 => ?_) AllReadyH.nil
    go_simp; refine (web_five_calls _ _).mono ?_; rintro e w2 ⟨rfl, hb2⟩
    refine hK1.out _ _ ?hS7 (fun hH1 => ?_)
    case hS7 => ((try dsimp only); (exact ⟨blk_below hb2 hH0.1, keepB0 hb2 hH0.2⟩))
    clear hK1 K1
    (try clear hH0)
    (try simp only [Act.put, List.setIfInBounds_toArray, List.set_cons_zero, List.set_cons_succ])
    refine wpAnyH_ready (rs := [5]) (by kernel_rfl) (by simp) ?_
    refine AllReadyH.cons (o := { dst := some 25, op := Op.call { callee := Callee.value (Operand.func 71), args := #[Operand.tmp 24], argTypes := #[3] }, type := 9, pos := "web.go:127", after := #[{ on := 4, ground := Ground.data }, { on := 2, ground := Ground.chain }], guard := none }) rfl (fun K2 hK2 => ?_) AllReadyH.nil
    go_simp; refine (web_five_calls _ _).mono ?_; rintro e w3 ⟨rfl, hb3⟩
    refine hK2.out _ _ ?hS7 (fun hH2 => ?_)
    case hS7 => ((try dsimp only); (exact ⟨blk_below hb3 hH1.1, keepB0 hb3 hH1.2⟩))
    clear hK2 K2
    (try clear hH1)
    (try simp only [Act.put, List.setIfInBounds_toArray, List.set_cons_zero, List.set_cons_succ])
    refine takeY (oi := { dst := some 26, op := Op.binOp BinOp.add 9 (Operand.tmp 22) (Operand.tmp 25) 9, type := 9, pos := "web.go:127", after := #[{ on := 2, ground := Ground.data }, { on := 5, ground := Ground.data }], guard := none }) 6 (some 26) (v := ?v6_7) rfl rfl (by kernel_rfl) (by kernel_rfl) (by kernel_rfl) (fun _ _ _ h => h) (by kernel_rfl) ?hy7 hH2 ?_
    case hy7 => (intro w_ hSw; (try dsimp only at hSw); go_simp; (first | done | with_reducible rfl | rw [if_neg (by omega)]))
    simp only [Act.put, List.setIfInBounds_toArray, List.set_cons_zero, List.set_cons_succ]
    refine wpAnyH_ready (rs := [11]) (by kernel_rfl) (by simp) ?_
    refine AllReadyH.cons (o := { dst := some 31, op := Op.call { callee := Callee.value (Operand.func 69), args := #[Operand.tmp 28, Operand.tmp 30], argTypes := #[9, 22] }, type := 9, pos := "web.go:127", after := #[{ on := 8, ground := Ground.data }, { on := 10, ground := Ground.data }, { on := 5, ground := Ground.chain }], guard := none }) rfl (fun K3 hK3 => ?_) AllReadyH.nil
    go_simp; refine (web_text_calls _ _ _ _ _ hs (Kd.C_below HX.out hH2.2) HF.out HG.out hr).mono ?_; rintro e w4 ⟨rfl, hb4⟩
    refine hK3.out _ _ ?hS7 (fun hH3 => ?_)
    case hS7 => ((try dsimp only); (exact ⟨blk_below hb4 hH2.1, keepB0 hb4 hH2.2⟩))
    clear hK3 K3
    (try clear hH2)
    (try simp only [Act.put, List.setIfInBounds_toArray, List.set_cons_zero, List.set_cons_succ])
    refine takeY (oi := { dst := some 32, op := Op.binOp BinOp.add 9 (Operand.tmp 26) (Operand.tmp 31) 9, type := 9, pos := "web.go:127", after := #[{ on := 6, ground := Ground.data }, { on := 11, ground := Ground.data }], guard := none }) 12 (some 32) (v := ?v12_7) rfl rfl (by kernel_rfl) (by kernel_rfl) (by kernel_rfl) (fun _ _ _ h => h) (by kernel_rfl) ?hy7 hH3 ?_
    case hy7 => (intro w_ hSw; (try dsimp only at hSw); go_simp; (first | done | with_reducible rfl | rw [if_neg (by omega)]))
    simp only [Act.put, List.setIfInBounds_toArray, List.set_cons_zero, List.set_cons_succ]
    refine takeY (oi := { dst := some 2, op := Op.assign (Operand.tmp 32), type := 9, pos := "web.go:127", after := #[{ on := 12, ground := Ground.data }, { on := 11, ground := Ground.chain }, { on := 0, ground := Ground.phase }, { on := 1, ground := Ground.phase }, { on := 2, ground := Ground.phase }, { on := 3, ground := Ground.phase }, { on := 4, ground := Ground.phase }, { on := 5, ground := Ground.phase }, { on := 6, ground := Ground.phase }, { on := 7, ground := Ground.phase }, { on := 8, ground := Ground.phase }, { on := 9, ground := Ground.phase }, { on := 10, ground := Ground.phase }, { on := 11, ground := Ground.phase }, { on := 12, ground := Ground.phase }], guard := none }) 13 (some 2) (v := ?v13_7) rfl rfl (by kernel_rfl) (by kernel_rfl) (by kernel_rfl) (fun _ _ _ h => h) (by kernel_rfl) ?hy7 hH3 ?_
    case hy7 => (intro w_ hSw; (try dsimp only at hSw); go_simp; (first | done | with_reducible rfl | rw [if_neg (by omega)]))
    simp only [Act.put, List.setIfInBounds_toArray, List.set_cons_zero, List.set_cons_succ]
    refine takeY (oi := { dst := some 3, op := Op.assign (Operand.const (Value.int IntKind.i64 0)), type := 28, pos := "web.go:127", after := #[{ on := 13, ground := Ground.chain }, { on := 0, ground := Ground.phase }, { on := 1, ground := Ground.phase }, { on := 2, ground := Ground.phase }, { on := 3, ground := Ground.phase }, { on := 4, ground := Ground.phase }, { on := 5, ground := Ground.phase }, { on := 6, ground := Ground.phase }, { on := 7, ground := Ground.phase }, { on := 8, ground := Ground.phase }, { on := 9, ground := Ground.phase }, { on := 10, ground := Ground.phase }, { on := 11, ground := Ground.phase }, { on := 12, ground := Ground.phase }, { on := 13, ground := Ground.phase }], guard := none }) 14 (some 3) (v := ?v14_7) rfl rfl (by kernel_rfl) (by kernel_rfl) (by kernel_rfl) (fun _ _ _ h => h) (by kernel_rfl) ?hy7 hH3 ?_
    case hy7 => (intro w_ hSw; (try dsimp only at hSw); go_simp; (first | done | with_reducible rfl | rw [if_neg (by omega)]))
    simp only [Act.put, List.setIfInBounds_toArray, List.set_cons_zero, List.set_cons_succ]
    refine wpAnyH_done (by kernel_rfl) ?_ _
    have hEnd := hH3
    clear hH3
    have HE := Lib.hid hEnd.2
    go_wp2
    go_ret2
    exact ⟨by rw [edgeText, if_pos hc, hc]; rfl, HE.out⟩
  · go_enter Try.func19, Try.ntmps19
    go_wp2_with (
      (go_at_call 46; refine (graph_Check_calls _ _ _ _ 3 l [id, x, y] _ hs ?hP HF.out ?hI).mono ?_; (case hP => exact Kd.C_below HX.out (keepB0 (below_al _ _) (below_al w _))); (case hI => exact C_boxesg (by simp) [id, x, y] .i64 (by simp)); rintro e w1 ⟨rfl, hb1⟩; have HB1 := Lib.hid (keepB0 hb1 (keepB0 (below_al _ _) (below_al w _))); clear hb1))
    go_ret2
    exact ⟨by rw [edgeText, if_neg hc]; rfl, HB1.out⟩
end Go.Proofs.Ytonbnlfijmapfaa
