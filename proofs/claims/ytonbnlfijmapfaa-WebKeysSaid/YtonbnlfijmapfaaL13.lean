/- web.Entries. -/
import Derived.Test.YtonbnlfijmapfaaL12
namespace Go.Proofs.Ytonbnlfijmapfaa
open Go.RowKit Go.Shelf Go.Proofs.YtonbnlfijmapfaaW.PrintWords
set_option linter.unusedVariables false
set_option linter.unusedSimpArgs false

def propEntry (id : Int) (label : ByteArray) (p : SPrp) : SEntry := ⟨strOfNums [80] ++ label ++ strOfNums [32] ++ p.f0, strOfNums (valBytes p.f1.f0 p.f1.f1 p.f1.f2) ++ strOfNums (fiveBytes id)⟩
def entries (id : Int) (label : ByteArray) (ps : List SPrp) : List SEntry := if checkN label ps [id] = 0 then ⟨strOfNums [76] ++ label, strOfNums (fiveBytes id)⟩ :: ps.map (propEntry id label) else []

theorem map_take {α β : Type} (g : α → β) (l : List α) (k : Nat) (z : α) (h : k < l.length) : (l.take (k + 1)).map g = (l.take k).map g ++ [g (l.getD k z)] := by
  rw [List.take_succ_eq_append_getElem h]
  simp only [List.map_append, List.getD_eq_getElem?_getD, List.getElem?_eq_getElem h, Option.getD_some, List.map_cons, List.map_nil]

set_option maxRecDepth 100000 in
set_option maxHeartbeats 4000000 in
theorem web_Entries_calls (id : Int) (s : ByteArray) (A : Option Addr) (c : Nat) (l : List SPrp) (w : World) (hs : s.size ≤ 100000) (h : kPrp.C w A l.length l) (hf : fits l) (hg : ranged l) :
    Calls Try.prog 20 #[.agg #[.int .i64 id, .string s, .slice A l.length c]] w fun e w' => ∃ v, e = .returned v ∧ kEntry.R 39 w' w.heap.size (fun _ => True) v (entries id s l) ∧ Below w.heap.size w w' := by
  have HX := Lib.hid h; clear h
  have HF := Lib.hid hf; clear hf
  have HG := Lib.hid hg; clear hg
  by_cases hc : checkN s l [id] = 0
  · have hr := (checkN_ok hc).2.2
    obtain ⟨hok, h16⟩ := propsRight_ok hr
    have HO := Lib.hid hok; clear hok
    have HE := Lib.hid (show entries id s l = ⟨strOfNums [76] ++ s, strOfNums (fiveBytes id)⟩ :: l.map (propEntry id s) by rw [entries, if_pos hc])
    have z1 := five_size id
    go_enter Try.func20, Try.ntmps20
    go_wp2_with (
      (go_at_call 46; refine (graph_Check_calls _ _ _ _ 1 l [id] _ hs ?hP HF.out ?hI).mono ?_; (case hP => exact Kd.C_below HX.out (keepB0 (below_al _ _) (below_al w _))); (case hI => exact C_boxg (Kd.int .i64) (by decide) _ _ (by simp) id #[.int .i64 id] _ rfl); rw [hc]; rintro e w1 ⟨rfl, hb1⟩; have K1 := Lib.hid (blk_below hb1 (blk_alloc (blk_new w #[.int .i64 id, .string s, .slice A l.length c] 24) _)); have HB1 := Lib.hid (keepB0 hb1 (keepB0 (below_al _ _) (below_al w _))); clear hb1))
    refine wp_region_held_drew (S := (fun w' => Blk w' w.heap.size #[.int .i64 id, .string s, .slice A l.length c] 24 ∧ Below w.heap.size w w')) (by kernel_rfl) ?hS8 (fun hH0 => ?_)
    case hS8 => exact ⟨blk_drew K1.out, below_drew HB1.out⟩
    refine takeY (oi := { dst := some 17, op := Op.fieldAddr 24 (Operand.tmp 1) 1, type := 0, pos := "web.go:72", after := #[], guard := none }) 0 (some 17) (v := ?v0_8) rfl rfl (by kernel_rfl) (by kernel_rfl) (by kernel_rfl) (fun _ _ _ h => h) (by kernel_rfl) ?hy8 hH0 ?_
    case hy8 => (intro w_ hSw; (try dsimp only at hSw); go_simp; (first | done | with_reducible rfl | rw [if_neg (by omega)]))
    simp only [Act.put, List.setIfInBounds_toArray, List.set_cons_zero, List.set_cons_succ]
    refine takeY (oi := { dst := some 18, op := Op.load 9 (Operand.tmp 17), type := 9, pos := "web.go:72", after := #[{ on := 0, ground := Ground.data }], guard := none }) 1 (some 18) (v := ?v1_8) rfl rfl (by kernel_rfl) (by kernel_rfl) (by kernel_rfl) (fun _ _ _ h => h) (by kernel_rfl) ?hy8 hH0 ?_
    case hy8 => (intro w_ hSw; (try dsimp only at hSw); (have hc := blk_cell hSw.1 1; go_simp; (first | done | with_reducible rfl)))
    simp only [Act.put, List.setIfInBounds_toArray, List.set_cons_zero, List.set_cons_succ]
    refine takeY (oi := { dst := some 20, op := Op.fieldAddr 24 (Operand.tmp 1) 0, type := 0, pos := "web.go:72", after := #[], guard := none }) 3 (some 20) (v := ?v3_8) rfl rfl (by kernel_rfl) (by kernel_rfl) (by kernel_rfl) (fun _ _ _ h => h) (by kernel_rfl) ?hy8 hH0 ?_
    case hy8 => (intro w_ hSw; (try dsimp only at hSw); go_simp; (first | done | with_reducible rfl | rw [if_neg (by omega)]))
    simp only [Act.put, List.setIfInBounds_toArray, List.set_cons_zero, List.set_cons_succ]
    refine takeY (oi := { dst := some 21, op := Op.load 3 (Operand.tmp 20), type := 3, pos := "web.go:72", after := #[{ on := 3, ground := Ground.data }], guard := none }) 4 (some 21) (v := ?v4_8) rfl rfl (by kernel_rfl) (by kernel_rfl) (by kernel_rfl) (fun _ _ _ h => h) (by kernel_rfl) ?hy8 hH0 ?_
    case hy8 => (intro w_ hSw; (try dsimp only at hSw); (have hc := blk_cell hSw.1 0; go_simp; (first | done | with_reducible rfl)))
    simp only [Act.put, List.setIfInBounds_toArray, List.set_cons_zero, List.set_cons_succ]
    refine wpAnyH_ready (rs := [2]) (by kernel_rfl) (by simp) ?_
    refine AllReadyH.cons (o := { dst := some 19, op := Op.call { callee := Callee.value (Operand.func 33), args := #[Operand.tmp 18], argTypes := #[9] }, type := 9, pos := "web.go:72", after := #[{ on := 1, ground := Ground.data }], guard := none }) rfl (fun K1 hK1 => ?_) AllReadyH.nil
    go_simp; refine (web_LabelIndex_calls _ _ (by omega)).mono ?_; rintro e w2 ⟨rfl, rfl⟩
    refine hK1.out _ _ ?hS8 (fun hH1 => ?_)
    case hS8 => ((try dsimp only); (exact hH0))
    clear hK1 K1
    (try clear hH0)
    (try simp only [Act.put, List.setIfInBounds_toArray, List.set_cons_zero, List.set_cons_succ])
    refine wpAnyH_ready (rs := [5]) (by kernel_rfl) (by simp) ?_
    refine AllReadyH.cons (o := { dst := some 22, op := Op.call { callee := Callee.value (Operand.func 71), args := #[Operand.tmp 21], argTypes := #[3] }, type := 9, pos := "web.go:72", after := #[{ on := 4, ground := Ground.data }, { on := 2, ground := Ground.chain }], guard := none }) rfl (fun K2 hK2 => ?_) AllReadyH.nil
    go_simp; refine (web_five_calls _ _).mono ?_; rintro e w3 ⟨rfl, hb3⟩; have hB3 := Nat.le_trans hH1.2.size hb3.size
    refine hK2.out _ _ ?hS8 (fun hH2 => ?_)
    case hS8 => ((try dsimp only); (exact ⟨blk_below hb3 hH1.1, keepB0 hb3 hH1.2⟩))
    clear hK2 K2
    (try clear hH1)
    (try simp only [Act.put, List.setIfInBounds_toArray, List.set_cons_zero, List.set_cons_succ])
    refine takeY (oi := { dst := some 23, op := Op.build 39 #[(0, Operand.tmp 19), (1, Operand.tmp 22)], type := 39, pos := "web.go:72", after := #[{ on := 2, ground := Ground.data }, { on := 5, ground := Ground.data }], guard := none }) 6 (some 23) (v := ?v6_8) rfl rfl (by kernel_rfl) (by kernel_rfl) (by kernel_rfl) (fun _ _ _ h => h) (by kernel_rfl) ?hy8 hH2 ?_
    case hy8 => (intro w_ hSw; (try dsimp only at hSw); go_simp; (first | done | with_reducible rfl | rw [if_neg (by omega)]))
    simp only [Act.put, List.setIfInBounds_toArray, List.set_cons_zero, List.set_cons_succ]
    refine wpAnyH_ready (rs := [7]) (by kernel_rfl) (by simp) ?_
    refine AllReadyH.cons (o := { dst := some 24, op := Op.buildSlice 36 1 #[(0, Operand.tmp 23)], type := 36, pos := "web.go:72", after := #[{ on := 6, ground := Ground.data }], guard := none }) rfl (fun K3 hK3 => ?_) AllReadyH.nil
    go_simp
    refine hK3.out _ _ ?hS8 (fun hH3 => ?_)
    case hS8 => ((try dsimp only); (exact ⟨blk_alloc hH2.1 _, keepB0 (below_al _ _) hH2.2⟩))
    clear hK3 K3
    (try clear hH2)
    (try simp only [Act.put, List.setIfInBounds_toArray, List.set_cons_zero, List.set_cons_succ])
    refine takeY (oi := { dst := some 3, op := Op.assign (Operand.tmp 24), type := 36, pos := "web.go:72", after := #[{ on := 7, ground := Ground.data }, { on := 5, ground := Ground.chain }, { on := 0, ground := Ground.phase }, { on := 1, ground := Ground.phase }, { on := 2, ground := Ground.phase }, { on := 3, ground := Ground.phase }, { on := 4, ground := Ground.phase }, { on := 5, ground := Ground.phase }, { on := 6, ground := Ground.phase }, { on := 7, ground := Ground.phase }], guard := none }) 8 (some 3) (v := ?v8_8) rfl rfl (by kernel_rfl) (by kernel_rfl) (by kernel_rfl) (fun _ _ _ h => h) (by kernel_rfl) ?hy8 hH3 ?_
    case hy8 => (intro w_ hSw; (try dsimp only at hSw); go_simp; (first | done | with_reducible rfl | rw [if_neg (by omega)]))
    simp only [Act.put, List.setIfInBounds_toArray, List.set_cons_zero, List.set_cons_succ]
    refine wpAnyH_done (by kernel_rfl) ?_ _
    have hEnd := hH3
    clear hH3
    have HB3 := Lib.hid hEnd.2
    have K3 := Lib.hid hEnd.1
    have c2 : (w3.alloc (.cells #[.string (strOfNums [76] ++ s), .string (strOfNums (fiveBytes id))] 39)).cell? ⟨w.heap.size, 2, none⟩ = some (.slice A l.length c) := blk_cell K3.out 2
    have HR0 := Lib.hid (R_boxd kEntry (W := w3) (T := 39) ⟨strOfNums [76] ++ s, strOfNums (fiveBytes id)⟩ #[.string (strOfNums [76] ++ s), .string (strOfNums (fiveBytes id))] (kEntry_mkM _ _ _ _) hB3)
    go_wp2
    go_loopw [3, 28] (fun v3 v28 wr => ∃ (k : Nat), k ≤ l.length ∧ v28 = .int .i64 k ∧ Hid (Below w.heap.size w wr) ∧ Hid (Blk wr w.heap.size #[.int .i64 id, .string s, .slice A l.length c] 24) ∧ Hid (kEntry.R 39 wr w.heap.size (fun _ => True) v3 (⟨strOfNums [76] ++ s, strOfNums (fiveBytes id)⟩ :: (l.take k).map (propEntry id s)))) (fun _ v28 _ => l.length - (intOf v28).toNat)
    case atStart => exact ⟨0, by omega, rfl, HB3, K3, HR0⟩
    case round =>
      obtain ⟨k, hk, rfl, HB, HK, HR⟩ := hrel
      by_cases hlt : k < l.length
      · have hlt2 : (k : Int) < (l.length : Int) := by omega
        have hmem : l.getD k zPrp ∈ l := by simp [List.getD_eq_getElem?_getD, List.getElem?_eq_getElem hlt]
        have hsz := HF.out _ hmem
        have hrg := HG.out _ hmem
        have hvo := (HO.out _ hmem).2
        have HT := Lib.hid (map_take (propEntry id s) l k zPrp hlt)
        have hL2 := List.length_take_le k l
        obtain ⟨ad, rfl, g0, g1, g2, g3⟩ := at_Prp (Kd.C_below HX.out HB.out) (k : Int) (by omega) (by omega)
        simp only [Int.toNat_natCast, rd_Prp] at g0 g1 g2 g3
        cases hy : l.getD k zPrp with
        | mk y0 yv =>
        cases yv with
        | mk y1 y2 y3 =>
        rw [hy] at g0 g1 g2 g3 hsz hrg hvo HT
        clear hy hmem
        simp only at g0 g1 g2 g3 hsz hrg hvo
        have hvl := valBytes_length (k := y1) (n := y2) (s := y3) hvo
        have hvz := strOfNums_size (valBytes y1 y2 y3)
        go_wp2_with (go_at_call 72; refine (value_Bytes_calls y1 y2 y3 _ hrg.1 hrg.2 hvo).mono ?_; rintro e w7 ⟨v7, rfl, hR7, hb7⟩; have HR7 := Lib.hid hR7; have HB7 := Lib.hid hb7; clear hR7 hb7)
        have HB0 : Below w.heap.size w w7.drew := below_drew (keepB0 HB7.out (keepB0 (below_al _ _) HB.out))
        have HK7 := Lib.hid (blk_drew (blk_below HB7.out (blk_alloc HK.out (.cells #[.string y0, .int .i64 y1, .int .i64 y2, .string y3] 117))))
        have HP7 := Lib.hid (blk_drew (blk_below HB7.out (blk_new wr #[.string y0, .int .i64 y1, .int .i64 y2, .string y3] 117)))
        have HR4 := Lib.hid (Kd.R_drew (Kd.R_below (Kd.R_alloc HR.out (.cells #[.string y0, .int .i64 y1, .int .i64 y2, .string y3] 117)) HB7.out))
        have hB4 : w.heap.size ≤ w7.drew.heap.size := HB0.size
        go_wp2_with fail
        refine wp_region_held_drew (S := (fun w' => Blk w' w.heap.size #[.int .i64 id, .string s, .slice (some ad) l.length c] 24 ∧ Blk w' wr.heap.size #[.string y0, .int .i64 y1, .int .i64 y2, .string y3] 117 ∧ (Kd.int .u8).R 5 w' (wr.alloc (.cells #[.string y0, .int .i64 y1, .int .i64 y2, .string y3] 117)).heap.size (fun _ => True) v7 (valBytes y1 y2 y3) ∧ Below w.heap.size w w')) (by kernel_rfl) ?hS9 (fun hH0 => ?_)
        case hS9 => exact ⟨HK7.out, HP7.out, Kd.R_drew HR7.out, HB0⟩
        refine takeY (oi := { dst := some 38, op := Op.move (Operand.tmp 3), type := 36, pos := "web.go:75", after := #[], guard := none }) 0 (some 38) (v := ?v0_9) rfl rfl (by kernel_rfl) (by kernel_rfl) (by kernel_rfl) (fun _ _ _ h => h) (by kernel_rfl) ?hy9 hH0 ?_
        case hy9 => (intro w_ hSw; (try dsimp only at hSw); go_simp; (first | done | with_reducible rfl | rw [if_neg (by omega)]))
        simp only [Act.put, List.setIfInBounds_toArray, List.set_cons_zero, List.set_cons_succ]
        refine takeY (oi := { dst := some 39, op := Op.fieldAddr 24 (Operand.tmp 1) 1, type := 0, pos := "web.go:75", after := #[], guard := none }) 1 (some 39) (v := ?v1_9) rfl rfl (by kernel_rfl) (by kernel_rfl) (by kernel_rfl) (fun _ _ _ h => h) (by kernel_rfl) ?hy9 hH0 ?_
        case hy9 => (intro w_ hSw; (try dsimp only at hSw); go_simp; (first | done | with_reducible rfl | rw [if_neg (by omega)]))
        simp only [Act.put, List.setIfInBounds_toArray, List.set_cons_zero, List.set_cons_succ]
        refine takeY (oi := { dst := some 40, op := Op.load 9 (Operand.tmp 39), type := 9, pos := "web.go:75", after := #[{ on := 1, ground := Ground.data }], guard := none }) 2 (some 40) (v := ?v2_9) rfl rfl (by kernel_rfl) (by kernel_rfl) (by kernel_rfl) (fun _ _ _ h => h) (by kernel_rfl) ?hy9 hH0 ?_
        case hy9 => (intro w_ hSw; (try dsimp only at hSw); (have hc := blk_cell hSw.1 1; go_simp; (first | done | with_reducible rfl)))
        simp only [Act.put, List.setIfInBounds_toArray, List.set_cons_zero, List.set_cons_succ]
        refine takeY (oi := { dst := some 41, op := Op.fieldAddr 117 (Operand.tmp 5) 0, type := 0, pos := "web.go:75", after := #[], guard := none }) 3 (some 41) (v := ?v3_9) rfl rfl (by kernel_rfl) (by kernel_rfl) (by kernel_rfl) (fun _ _ _ h => h) (by kernel_rfl) ?hy9 hH0 ?_
        case hy9 => (intro w_ hSw; (try dsimp only at hSw); go_simp; (first | done | with_reducible rfl | rw [if_neg (by omega)]))
        simp only [Act.put, List.setIfInBounds_toArray, List.set_cons_zero, List.set_cons_succ]
        refine takeY (oi := { dst := some 42, op := Op.load 9 (Operand.tmp 41), type := 9, pos := "web.go:75", after := #[{ on := 3, ground := Ground.data }], guard := none }) 4 (some 42) (v := ?v4_9) rfl rfl (by kernel_rfl) (by kernel_rfl) (by kernel_rfl) (fun _ _ _ h => h) (by kernel_rfl) ?hy9 hH0 ?_
        case hy9 => (intro w_ hSw; (try dsimp only at hSw); (have hc := blk_cell hSw.2.1 0; go_simp; (first | done | with_reducible rfl)))
        simp only [Act.put, List.setIfInBounds_toArray, List.set_cons_zero, List.set_cons_succ]
        refine takeY (oi := { dst := some 44, op := Op.move (Operand.tmp 6), type := 46, pos := "web.go:75", after := #[], guard := none }) 6 (some 44) (v := ?v6_9) rfl rfl (by kernel_rfl) (by kernel_rfl) (by kernel_rfl) (fun _ _ _ h => h) (by kernel_rfl) ?hy9 hH0 ?_
        case hy9 => (intro w_ hSw; (try dsimp only at hSw); go_simp; (first | done | with_reducible rfl | rw [if_neg (by omega)]))
        simp only [Act.put, List.setIfInBounds_toArray, List.set_cons_zero, List.set_cons_succ]
        refine takeY (oi := { dst := some 45, op := Op.convert 46 9 (Operand.tmp 44), type := 9, pos := "web.go:75", after := #[{ on := 6, ground := Ground.data }], guard := none }) 7 (some 45) (v := ?v7_9) rfl rfl (by kernel_rfl) (by kernel_rfl) (by kernel_rfl) (fun _ _ _ h => h) (by kernel_rfl) ?hy9 hH0 ?_
        case hy9 => (intro w_ hSw; (try dsimp only at hSw); (have hc := str_R hSw.2.2.1 (Below.refl _ _); go_simp; (first | done | with_reducible rfl)))
        simp only [Act.put, List.setIfInBounds_toArray, List.set_cons_zero, List.set_cons_succ]
        refine takeY (oi := { dst := some 46, op := Op.fieldAddr 24 (Operand.tmp 1) 0, type := 0, pos := "web.go:75", after := #[], guard := none }) 8 (some 46) (v := ?v8_9) rfl rfl (by kernel_rfl) (by kernel_rfl) (by kernel_rfl) (fun _ _ _ h => h) (by kernel_rfl) ?hy9 hH0 ?_
        case hy9 => (intro w_ hSw; (try dsimp only at hSw); go_simp; (first | done | with_reducible rfl | rw [if_neg (by omega)]))
        simp only [Act.put, List.setIfInBounds_toArray, List.set_cons_zero, List.set_cons_succ]
        refine takeY (oi := { dst := some 47, op := Op.load 3 (Operand.tmp 46), type := 3, pos := "web.go:75", after := #[{ on := 8, ground := Ground.data }], guard := none }) 9 (some 47) (v := ?v9_9) rfl rfl (by kernel_rfl) (by kernel_rfl) (by kernel_rfl) (fun _ _ _ h => h) (by kernel_rfl) ?hy9 hH0 ?_
        case hy9 => (intro w_ hSw; (try dsimp only at hSw); (have hc := blk_cell hSw.1 0; go_simp; (first | done | with_reducible rfl)))
        simp only [Act.put, List.setIfInBounds_toArray, List.set_cons_zero, List.set_cons_succ]
        refine wpAnyH_ready (rs := [5]) (by kernel_rfl) (by simp) ?_
        refine AllReadyH.cons (o := { dst := some 43, op := Op.call { callee := Callee.value (Operand.func 34), args := #[Operand.tmp 40, Operand.tmp 42], argTypes := #[9, 9] }, type := 9, pos := "web.go:75", after := #[{ on := 2, ground := Ground.data }, { on := 4, ground := Ground.data }], guard := none }) rfl (fun K1 hK1 => ?_) AllReadyH.nil
        go_simp; refine (web_ValueIndex_calls _ _ _ (by omega) (by omega)).mono ?_; rintro e w2 ⟨rfl, rfl⟩
        refine hK1.out _ _ ?hS9 (fun hH1 => ?_)
        case hS9 => ((try dsimp only); (exact hH0))
        clear hK1 K1
        (try clear hH0)
        (try simp only [Act.put, List.setIfInBounds_toArray, List.set_cons_zero, List.set_cons_succ])
        refine wpAnyH_ready (rs := [10]) (by kernel_rfl) (by simp) ?_
        refine AllReadyH.cons (o := { dst := some 48, op := Op.call { callee := Callee.value (Operand.func 71), args := #[Operand.tmp 47], argTypes := #[3] }, type := 9, pos := "web.go:75", after := #[{ on := 9, ground := Ground.data }, { on := 5, ground := Ground.chain }], guard := none }) rfl (fun K2 hK2 => ?_) AllReadyH.nil
        go_simp; refine (web_five_calls _ _).mono ?_; rintro e w9 ⟨rfl, hb9⟩; have hR9 := Kd.R_below HR4.out hb9; have hB9 := Nat.le_trans hB4 hb9.size; have q1 := blk_below hb9 hH1.1; have q2 := blk_below hb9 hH1.2.1; have q3 := Kd.R_below hH1.2.2.1 hb9; have q4 := keepB0 hb9 hH1.2.2.2
        refine hK2.out _ _ ?hS9 (fun hH2 => ?_)
        case hS9 => ((try dsimp only); (exact ⟨q1, q2, q3, q4⟩))
        clear hK2 K2
        (try clear hH1)
        (try simp only [Act.put, List.setIfInBounds_toArray, List.set_cons_zero, List.set_cons_succ])
        refine takeY (oi := { dst := some 49, op := Op.binOp BinOp.add 9 (Operand.tmp 45) (Operand.tmp 48) 9, type := 9, pos := "web.go:75", after := #[{ on := 7, ground := Ground.data }, { on := 10, ground := Ground.data }], guard := none }) 11 (some 49) (v := ?v11_9) rfl rfl (by kernel_rfl) (by kernel_rfl) (by kernel_rfl) (fun _ _ _ h => h) (by kernel_rfl) ?hy9 hH2 ?_
        case hy9 => (intro w_ hSw; (try dsimp only at hSw); go_simp; (first | done | with_reducible rfl | rw [if_neg (by omega)]))
        simp only [Act.put, List.setIfInBounds_toArray, List.set_cons_zero, List.set_cons_succ]
        refine takeY (oi := { dst := some 50, op := Op.build 39 #[(0, Operand.tmp 43), (1, Operand.tmp 49)], type := 39, pos := "web.go:75", after := #[{ on := 5, ground := Ground.data }, { on := 11, ground := Ground.data }], guard := none }) 12 (some 50) (v := ?v12_9) rfl rfl (by kernel_rfl) (by kernel_rfl) (by kernel_rfl) (fun _ _ _ h => h) (by kernel_rfl) ?hy9 hH2 ?_
        case hy9 => (intro w_ hSw; (try dsimp only at hSw); go_simp; (first | done | with_reducible rfl | rw [if_neg (by omega)]))
        simp only [Act.put, List.setIfInBounds_toArray, List.set_cons_zero, List.set_cons_succ]
        refine wpAnyH_ready (rs := [13]) (by kernel_rfl) (by simp) ?_
        refine AllReadyH.cons (o := { dst := some 51, op := Op.buildSlice 36 1 #[(0, Operand.tmp 50)], type := 36, pos := "web.go:75", after := #[{ on := 12, ground := Ground.data }], guard := none }) rfl (fun K3 hK3 => ?_) AllReadyH.nil
        go_simp
        refine hK3.out _ _ ?hS9 (fun hH3 => ?_)
        case hS9 => ((try dsimp only); (exact ⟨blk_alloc hH2.1 _, blk_alloc hH2.2.1 _, Kd.R_alloc hH2.2.2.1 _, keepB0 (below_al _ _) hH2.2.2.2⟩))
        clear hK3 K3
        (try clear hH2)
        (try simp only [Act.put, List.setIfInBounds_toArray, List.set_cons_zero, List.set_cons_succ])
        refine wpAnyH_ready (rs := [14]) (by kernel_rfl) (by simp) ?_
        refine AllReadyH.cons (o := { dst := some 52, op := Op.call { callee := Callee.builtin Builtin.append, args := #[Operand.tmp 38, Operand.tmp 51], argTypes := #[36, 36] }, type := 36, pos := "web.go:75", after := #[{ on := 0, ground := Ground.data }, { on := 13, ground := Ground.data }, { on := 10, ground := Ground.chain }], guard := none }) rfl (fun K4 hK4 => ?_) AllReadyH.nil
        obtain ⟨v2, w2, hr2, hR2, hb2, hg2, hat2⟩ := run_app_one (ty := 36) hR9 info_Entry Try.underlying36 (kEntry_mkM _ _ _ (propEntry id s ⟨y0, ⟨y1, y2, y3⟩⟩)) (fun _ _ => trivial) hB9 (by simp; omega) rfl (by decide) (by decide); refine step_app (by kernel_rfl) rfl rfl rfl hr2 ?_
        refine hK4.out _ _ ?hS9 (fun hH4 => ?_)
        case hS9 => ((try dsimp only); (exact ⟨blk_grown q1 hR9 hg2 (by decide), blk_grown q2 hR9 hg2 (by decide), R_beside q3 rfl hR9 hg2 (by decide), q4.trans hb2⟩))
        clear hK4 K4
        (try clear hH3)
        (try simp only [Act.put, List.setIfInBounds_toArray, List.set_cons_zero, List.set_cons_succ])
        refine takeY (oi := { dst := some 3, op := Op.assign (Operand.tmp 52), type := 36, pos := "web.go:75", after := #[{ on := 14, ground := Ground.data }, { on := 14, ground := Ground.chain }, { on := 0, ground := Ground.phase }, { on := 1, ground := Ground.phase }, { on := 2, ground := Ground.phase }, { on := 3, ground := Ground.phase }, { on := 4, ground := Ground.phase }, { on := 5, ground := Ground.phase }, { on := 6, ground := Ground.phase }, { on := 7, ground := Ground.phase }, { on := 8, ground := Ground.phase }, { on := 9, ground := Ground.phase }, { on := 10, ground := Ground.phase }, { on := 11, ground := Ground.phase }, { on := 12, ground := Ground.phase }, { on := 13, ground := Ground.phase }, { on := 14, ground := Ground.phase }], guard := none }) 15 (some 3) (v := ?v15_9) rfl rfl (by kernel_rfl) (by kernel_rfl) (by kernel_rfl) (fun _ _ _ h => h) (by kernel_rfl) ?hy9 hH4 ?_
        case hy9 => (intro w_ hSw; (try dsimp only at hSw); go_simp; (first | done | with_reducible rfl | rw [if_neg (by omega)]))
        simp only [Act.put, List.setIfInBounds_toArray, List.set_cons_zero, List.set_cons_succ]
        refine wpAnyH_done (by kernel_rfl) ?_ _
        have hEnd := hH4
        clear hH4
        have HB5 := Lib.hid hEnd.2.2.2
        have HK5 := Lib.hid hEnd.1
        have HR5 := Lib.hid hR2
        clear hR2 hg2 hb2 hR9 q3
        go_wp2
        go_roundw
        case rel =>
          refine ⟨k + 1, by omega, by go_num, HB5, HK5, Lib.hid ?_⟩
          have e := HR5.out
          rw [HT.out]
          exact e
        case measure => simp [intOf]; omega
      · have hlt2 : ¬ (k : Int) < (l.length : Int) := by omega
        go_wp2
        go_ret
        refine ⟨_, rfl, ?_, HB.out⟩
        rw [HE.out]
        have := HR.out
        rwa [List.take_of_length_le (by omega)] at this
  · have hE : entries id s l = [] := by rw [entries, if_neg hc]
    go_enter Try.func20, Try.ntmps20
    go_wp2_with (
      (go_at_call 46; refine (graph_Check_calls _ _ _ _ 1 l [id] _ hs ?hP HF.out ?hI).mono ?_; (case hP => exact Kd.C_below HX.out (keepB0 (below_al _ _) (below_al w _))); (case hI => exact C_boxg (Kd.int .i64) (by decide) _ _ (by simp) id #[.int .i64 id] _ rfl); rintro e w1 ⟨rfl, hb1⟩; have HB1 := Lib.hid (keepB0 hb1 (keepB0 (below_al _ _) (below_al w _))); clear hb1))
    go_ret
    exact ⟨_, rfl, by rw [hE]; exact Kd.R_nil _ _ _ _ _, HB1.out⟩
end Go.Proofs.Ytonbnlfijmapfaa
