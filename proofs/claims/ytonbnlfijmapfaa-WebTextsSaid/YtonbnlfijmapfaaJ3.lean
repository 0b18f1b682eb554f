/- Texts of this proof, joined: L13, E0, P1, P6, L14, L15, L16, L17, K4, L22, L25, L27, L23, L24, L29, L30, L31. No condition. -/
import Derived.Test.YtonbnlfijmapfaaJ2
import Derived.Test.YtonbnlfijmapfaaJ1
import Derived.Test.YtonbnlfijmapfaaWEqStruct
import Derived.Laws.Strings
/- web.Entries. -/
namespace Go.Proofs.Ytonbnlfijmapfaa
open Go.RowKit Go.Shelf Go.Proofs.YtonbnlfijmapfaaW.PrintWords
set_option linter.unusedVariables false
set_option linter.unusedSimpArgs false

def propEntry (id : Int) (label : ByteArray) (p : SPrp) : SEntry := ⟨strOfNums [80] ++ label ++ strOfNums [32] ++ p.f0, strOfNums (valBytes p.f1.f0 p.f1.f1 p.f1.f2) ++ strOfNums (fiveBytes id)⟩
def entries (id : Int) (label : ByteArray) (ps : List SPrp) : List SEntry := if checkN label ps [id] = 0 then ⟨strOfNums [76] ++ label, strOfNums (fiveBytes id)⟩ :: ps.map (propEntry id label) else []

theorem map_take {α β : Type} (g : α → β) (l : List α) (k : Nat) (z : α) (h : k < l.length) : (l.take (k + 1)).map g = (l.take k).map g ++ [g (l.getD k z)] := by
  rw [List.take_succ_eq_append_getElem h]
  simp only [List.map_append, List.getD_eq_getElem?_getD, List.getElem?_eq_getElem h, Option.getD_some, List.map_cons, List.map_nil]

set_option maxRecDepth 100000 in
set_option maxHeartbeats 4000000 in
theorem web_Entries_calls (id : Int) (s : ByteArray) (A : Option Addr) (c : Nat) (l : List SPrp) (w : World) (hs : s.size ≤ 100000) (h : kPrp.C w A l.length l) (hf : fits l) (hg : ranged l) :
    Calls Try.prog 20 #[.agg #[.int .i64 id, .string s, .slice A l.length c]] w fun e w' => ∃ v, e = .returned v ∧ kEntry.R 39 w' w.heap.size (fun _ => True) v (entries id s l) ∧ Below w.heap.size w w' := by
  have HX := Lib.hid h; clear h
  have HF := Lib.hid hf; clear hf
  have HG := Lib.hid hg; clear hg
  by_cases hc : checkN s l [id] = 0
  · have hr := (checkN_ok hc).2.2
    obtain ⟨hok, h16⟩ := propsRight_ok hr
    have HO := Lib.hid hok; clear hok
    have HE := Lib.hid (show entries id s l = ⟨strOfNums [76] ++ s, strOfNums (fiveBytes id)⟩ :: l.map (propEntry id s) by rw [entries, if_pos hc])
    have z1 := five_size id
    go_enter Try.func20, Try.ntmps20
    go_wp2_with (
      (go_at_call 46; refine (graph_Check_calls _ _ _ _ 1 l [id] _ hs ?hP HF.out ?hI).mono ?_; (case hP => exact Kd.C_below HX.out (keepB0 (below_al _ _) (below_al w _))); (case hI => exact C_boxg (Kd.int .i64) (by decide) _ _ (by simp) id #[.int .i64 id] _ rfl); rw [hc]; rintro e w1 ⟨rfl, hb1⟩; have K1 := Lib.hid (blk_below hb1 (blk_alloc (blk_new w #[.int .i64 id, .string s, .slice A l.length c] 24) _)); have HB1 := Lib.hid (keepB0 hb1 (keepB0 (below_al _ _) (below_al w _))); clear hb1))
    refine wp_region_held_drew (S := (fun w' => Blk w' w.heap.size #[.int .i64 id, .string s, .slice A l.length c] 24 ∧ Below w.heap.size w w')) (by kernel_rfl) ?hS8 (fun hH0 => ?_)
    case hS8 => exact ⟨blk_drew K1.out, below_drew HB1.out⟩
    refine takeY (oi := { dst := some 17, op := Op.fieldAddr 24 (Operand.tmp 1) 1, type := 0, pos := "web.go:72", after := #[], guard := none }) 0 (some 17) (v := ?v0_8) rfl rfl (by kernel_rfl) (by kernel_rfl) (by kernel_rfl) (fun _ _ _ h => h) (by kernel_rfl) ?hy8 hH0 ?_
    case hy8 => (intro w_ hSw; (try dsimp only at hSw); go_simp; (first | done | with_reducible rfl | rw [if_neg (by omega)]))
    simp only [Act.put, List.setIfInBounds_toArray, List.set_cons_zero, List.set_cons_succ]
    refine takeY (oi := { dst := some 18, op := Op.load 9 (Operand.tmp 17), type := 9, pos := "web.go:72", after := #[{ on := 0, ground := Ground.data }], guard := none }) 1 (some 18) (v := ?v1_8) rfl rfl (by kernel_rfl) (by kernel_rfl) (by kernel_rfl) (fun _ _ _ h => h) (by kernel_rfl) ?hy8 hH0 ?_
    case hy8 => (intro w_ hSw; (try dsimp only at hSw); (have hc := blk_cell hSw.1 1; go_simp; (first | done | with_reducible rfl)))
    simp only [Act.put, List.setIfInBounds_toArray, List.set_cons_zero, List.set_cons_succ]
    refine takeY (oi := { dst := some 20, op := Op.fieldAddr 24 (Operand.tmp 1) 0, type := 0, pos := "web.go:72", after := #[], guard := none }) 3 (some 20) (v := ?v3_8) rfl rfl (by kernel_rfl) (by kernel_rfl) (by kernel_rfl) (fun _ _ _ h => h) (by kernel_rfl) ?hy8 hH0 ?_
    case hy8 => (intro w_ hSw; (try dsimp only at hSw); go_simp; (first | done | with_reducible rfl | rw [if_neg (by omega)]))
    simp only [Act.put, List.setIfInBounds_toArray, List.set_cons_zero, List.set_cons_succ]
    refine takeY (oi := { dst := some 21, op := Op.load 3 (Operand.tmp 20), type := 3, pos := "web.go:72", after := #[{ on := 3, ground := Ground.data }], guard := none }) 4 (some 21) (v := ?v4_8) rfl rfl (by kernel_rfl) (by kernel_rfl) (by kernel_rfl) (fun _ _ _ h => h) (by kernel_rfl) ?hy8 hH0 ?_
    case hy8 => (intro w_ hSw; (try dsimp only at hSw); (have hc := blk_cell hSw.1 0; go_simp; (first | done | with_reducible rfl)))
    simp only [Act.put, List.setIfInBounds_toArray, List.set_cons_zero, List.set_cons_succ]
    refine wpAnyH_ready (rs := [2]) (by kernel_rfl) (by simp) ?_
    refine AllReadyH.cons (o := { dst := some 19, op := Op.call { callee := Callee.value (Operand.func 33), args := #[Operand.tmp 18], argTypes := #[9] }, type := 9, pos := "web.go:72", after := #[{ on := 1, ground := Ground.data }], guard := none }) rfl (fun K1 hK1 => ?_) AllReadyH.nil
    go_simp; refine (web_LabelIndex_calls _ _ (by omega)).mono ?_; rintro e w2 ⟨rfl, rfl⟩
    refine hK1.out _ _ ?hS8 (fun hH1 => ?_)
    case hS8 => ((try dsimp only); (exact hH0))
    clear hK1 K1
    (try clear hH0)
    (try simp only [Act.put, List.setIfInBounds_toArray, List.set_cons_zero, List.set_cons_succ])
    refine wpAnyH_ready (rs := [5]) (by kernel_rfl) (by simp) ?_
    refine AllReadyH.cons (o := { dst := some 22, op := Op.call { callee := Callee.value (Operand.func 71), args := #[Operand.tmp 21], argTypes := #[3] }, type := 9, pos := "web.go:72", after := #[{ on := 4, ground := Ground.data }, { on := 2, ground := Ground.chain }], guard := none }) rfl (fun K2 hK2 => ?_) AllReadyH.nil
    go_simp; refine (web_five_calls _ _).mono ?_; rintro e w3 ⟨rfl, hb3⟩; have hB3 := Nat.le_trans hH1.2.size hb3.size
    refine hK2.out _ _ ?hS8 (fun hH2 => ?_)
    case hS8 => ((try dsimp only); (exact ⟨blk_below hb3 hH1.1, keepB0 hb3 hH1.2⟩))
    clear hK2 K2
    (try clear hH1)
    (try simp only [Act.put, List.setIfInBounds_toArray, List.set_cons_zero, List.set_cons_succ])
    refine takeY (oi := { dst := some 23, op := Op.build 39 #[(0, Operand.tmp 19), (1, Operand.tmp 22)], type := 39, pos := "web.go:72", after := #[{ on := 2, ground := Ground.data }, { on := 5, ground := Ground.data }], guard := none }) 6 (some 23) (v := ?v6_8) rfl rfl (by kernel_rfl) (by kernel_rfl) (by kernel_rfl) (fun _ _ _ h => h) (by kernel_rfl) ?hy8 hH2 ?_
    case hy8 => (intro w_ hSw; (try dsimp only at hSw); go_simp; (first | done | with_reducible rfl | rw [if_neg (by omega)]))
    simp only [Act.put, List.setIfInBounds_toArray, List.set_cons_zero, List.set_cons_succ]
    refine wpAnyH_ready (rs := [7]) (by kernel_rfl) (by simp) ?_
    refine AllReadyH.cons (o := { dst := some 24, op := Op.buildSlice 36 1 #[(0, Operand.tmp 23)], type := 36, pos := "web.go:72", after := #[{ on := 6, ground := Ground.data }], guard := none }) rfl (fun K3 hK3 => ?_) AllReadyH.nil
    go_simp
    refine hK3.out _ _ ?hS8 (fun hH3 => ?_)
    case hS8 => ((try dsimp only); (exact ⟨blk_alloc hH2.1 _, keepB0 (below_al _ _) hH2.2⟩))
    clear hK3 K3
    (try clear hH2)
    (try simp only [Act.put, List.setIfInBounds_toArray, List.set_cons_zero, List.set_cons_succ])
    refine takeY (oi := { dst := some 3, op := Op.assign (Operand.tmp 24), type := 36, pos := "web.go:72", after := #[{ on := 7, ground := Ground.data }, { on := 5, ground := Ground.chain }, { on := 0, ground := Ground.phase }, { on := 1, ground := Ground.phase }, { on := 2, ground := Ground.phase }, { on := 3, ground := Ground.phase }, { on := 4, ground := Ground.phase }, { on := 5, ground := Ground.phase }, { on := 6, ground := Ground.phase }, { on := 7, ground := Ground.phase }], guard := none }) 8 (some 3) (v := ?v8_8) rfl rfl (by kernel_rfl) (by kernel_rfl) (by kernel_rfl) (fun _ _ _ h => h) (by kernel_rfl) ?hy8 hH3 ?_
    case hy8 => (intro w_ hSw; (try dsimp only at hSw); go_simp; (first | done | with_reducible rfl | rw [if_neg (by omega)]))
    simp only [Act.put, List.setIfInBounds_toArray, List.set_cons_zero, List.set_cons_succ]
    refine wpAnyH_done (by kernel_rfl) ?_ _
    have hEnd := hH3
    clear hH3
    have HB3 := Lib.hid hEnd.2
    have K3 := Lib.hid hEnd.1
    have c2 : (w3.alloc (.cells #[.string (strOfNums [76] ++ s), .string (strOfNums (fiveBytes id))] 39)).cell? ⟨w.heap.size, 2, none⟩ = some (.slice A l.length c) := blk_cell K3.out 2
    have HR0 := Lib.hid (R_boxd kEntry (W := w3) (T := 39) ⟨strOfNums [76] ++ s, strOfNums (fiveBytes id)⟩ #[.string (strOfNums [76] ++ s), .string (strOfNums (fiveBytes id))] (kEntry_mkM _ _ _ _) hB3)
    go_wp2
    go_loopw [3, 28] (fun v3 v28 wr => ∃ (k : Nat), k ≤ l.length ∧ v28 = .int .i64 k ∧ Hid (Below w.heap.size w wr) ∧ Hid (Blk wr w.heap.size #[.int .i64 id, .string s, .slice A l.length c] 24) ∧ Hid (kEntry.R 39 wr w.heap.size (fun _ => True) v3 (⟨strOfNums [76] ++ s, strOfNums (fiveBytes id)⟩ :: (l.take k).map (propEntry id s)))) (fun _ v28 _ => l.length - (intOf v28).toNat)
    case atStart => exact ⟨0, by omega, rfl, HB3, K3, HR0⟩
    case round =>
      obtain ⟨k, hk, rfl, HB, HK, HR⟩ := hrel
      by_cases hlt : k < l.length
      · have hlt2 : (k : Int) < (l.length : Int) := by omega
        have hmem : l.getD k zPrp ∈ l := by simp [List.getD_eq_getElem?_getD, List.getElem?_eq_getElem hlt]
        have hsz := HF.out _ hmem
        have hrg := HG.out _ hmem
        have hvo := (HO.out _ hmem).2
        have HT := Lib.hid (map_take (propEntry id s) l k zPrp hlt)
        have hL2 := List.length_take_le k l
        obtain ⟨ad, rfl, g0, g1, g2, g3⟩ := at_Prp (Kd.C_below HX.out HB.out) (k : Int) (by omega) (by omega)
        simp only [Int.toNat_natCast, rd_Prp] at g0 g1 g2 g3
        cases hy : l.getD k zPrp with
        | mk y0 yv =>
        cases yv with
        | mk y1 y2 y3 =>
        rw [hy] at g0 g1 g2 g3 hsz hrg hvo HT
        clear hy hmem
        simp only at g0 g1 g2 g3 hsz hrg hvo
        have hvl := valBytes_length (k := y1) (n := y2) (s := y3) hvo
        have hvz := strOfNums_size (valBytes y1 y2 y3)
        go_wp2_with (go_at_call 72; refine (value_Bytes_calls y1 y2 y3 _ hrg.1 hrg.2 hvo).mono ?_; rintro e w7 ⟨v7, rfl, hR7, hb7⟩; have HR7 := Lib.hid hR7; have HB7 := Lib.hid hb7; clear hR7 hb7)
        have HB0 : Below w.heap.size w w7.drew := below_drew (keepB0 HB7.out (keepB0 (below_al _ _) HB.out))
        have HK7 := Lib.hid (blk_drew (blk_below HB7.out (blk_alloc HK.out (.cells #[.string y0, .int .i64 y1, .int .i64 y2, .string y3] 117))))
        have HP7 := Lib.hid (blk_drew (blk_below HB7.out (blk_new wr #[.string y0, .int .i64 y1, .int .i64 y2, .string y3] 117)))
        have HR4 := Lib.hid (Kd.R_drew (Kd.R_below (Kd.R_alloc HR.out (.cells #[.string y0, .int .i64 y1, .int .i64 y2, .string y3] 117)) HB7.out))
        have hB4 : w.heap.size ≤ w7.drew.heap.size := HB0.size
        go_wp2_with fail
        refine wp_region_held_drew (S := (fun w' => Blk w' w.heap.size #[.int .i64 id, .string s, .slice (some ad) l.length c] 24 ∧ Blk w' wr.heap.size #[.string y0, .int .i64 y1, .int .i64 y2, .string y3] 117 ∧ (Kd.int .u8).R 5 w' (wr.alloc (.cells #[.string y0, .int .i64 y1, .int .i64 y2, .string y3] 117)).heap.size (fun _ => True) v7 (valBytes y1 y2 y3) ∧ Below w.heap.size w w')) (by kernel_rfl) ?hS9 (fun hH0 => ?_)
        case hS9 => exact ⟨HK7.out, HP7.out, Kd.R_drew HR7.out, HB0⟩
        refine takeY (oi := { dst := some 38, op := Op.move (Operand.tmp 3), type := 36, pos := "web.go:75", after := #[], guard := none }) 0 (some 38) (v := ?v0_9) rfl rfl (by kernel_rfl) (by kernel_rfl) (by kernel_rfl) (fun _ _ _ h => h) (by kernel_rfl) ?hy9 hH0 ?_
        case hy9 => (intro w_ hSw; (try dsimp only at hSw); go_simp; (first | done | with_reducible rfl | rw [if_neg (by omega)]))
        simp only [Act.put, List.setIfInBounds_toArray, List.set_cons_zero, List.set_cons_succ]
        refine takeY (oi := { dst := some 39, op := Op.fieldAddr 24 (Operand.tmp 1) 1, type := 0, pos := "web.go:75", after := #[], guard := none }) 1 (some 39) (v := ?v1_9) rfl rfl (by kernel_rfl) (by kernel_rfl) (by kernel_rfl) (fun _ _ _ h => h) (by kernel_rfl) ?hy9 hH0 ?_
        case hy9 => (intro w_ hSw; (try dsimp only at hSw); go_simp; (first | done | with_reducible rfl | rw [if_neg (by omega)]))
        simp only [Act.put, List.setIfInBounds_toArray, List.set_cons_zero, List.set_cons_succ]
        refine takeY (oi := { dst := some 40, op := Op.load 9 (Operand.tmp 39), type := 9, pos := "web.go:75", after := #[{ on := 1, ground := Ground.data }], guard := none }) 2 (some 40) (v := ?v2_9) rfl rfl (by kernel_rfl) (by kernel_rfl) (by kernel_rfl) (fun _ _ _ h => h) (by kernel_rfl) ?hy9 hH0 ?_
        case hy9 => (intro w_ hSw; (try dsimp only at hSw); (have hc := blk_cell hSw.1 1; go_simp; (first | done | with_reducible rfl)))
        simp only [Act.put, List.setIfInBounds_toArray, List.set_cons_zero, List.set_cons_succ]
        refine takeY (oi := { dst := some 41, op := Op.fieldAddr 117 (Operand.tmp 5) 0, type := 0, pos := "web.go:75", after := #[], guard := none }) 3 (some 41) (v := ?v3_9) rfl rfl (by kernel_rfl) (by kernel_rfl) (by kernel_rfl) (fun _ _ _ h => h) (by kernel_rfl) ?hy9 hH0 ?_
        case hy9 => (intro w_ hSw; (try dsimp only at hSw); go_simp; (first | done | with_reducible rfl | rw [if_neg (by omega)]))
        simp only [Act.put, List.setIfInBounds_toArray, List.set_cons_zero, List.set_cons_succ]
        refine takeY (oi := { dst := some 42, op := Op.load 9 (Operand.tmp 41), type := 9, pos := "web.go:75", after := #[{ on := 3, ground := Ground.data }], guard := none }) 4 (some 42) (v := ?v4_9) rfl rfl (by kernel_rfl) (by kernel_rfl) (by kernel_rfl) (fun _ _ _ h => h) (by kernel_rfl) ?hy9 hH0 ?_
        case hy9 => (intro w_ hSw; (try dsimp only at hSw); (have hc := blk_cell hSw.2.1 0; go_simp; (first | done | with_reducible rfl)))
        simp only [Act.put, List.setIfInBounds_toArray, List.set_cons_zero, List.set_cons_succ]
        refine takeY (oi := { dst := some 44, op := Op.move (Operand.tmp 6), type := 46, pos := "web.go:75", after := #[], guard := none }) 6 (some 44) (v := ?v6_9) rfl rfl (by kernel_rfl) (by kernel_rfl) (by kernel_rfl) (fun _ _ _ h => h) (by kernel_rfl) ?hy9 hH0 ?_
        case hy9 => (intro w_ hSw; (try dsimp only at hSw); go_simp; (first | done | with_reducible rfl | rw [if_neg (by omega)]))
        simp only [Act.put, List.setIfInBounds_toArray, List.set_cons_zero, List.set_cons_succ]
        refine takeY (oi := { dst := some 45, op := Op.convert 46 9 (Operand.tmp 44), type := 9, pos := "web.go:75", after := #[{ on := 6, ground := Ground.data }], guard := none }) 7 (some 45) (v := ?v7_9) rfl rfl (by kernel_rfl) (by kernel_rfl) (by kernel_rfl) (fun _ _ _ h => h) (by kernel_rfl) ?hy9 hH0 ?_
        case hy9 => (intro w_ hSw; (try dsimp only at hSw); (have hc := str_R hSw.2.2.1 (Below.refl _ _); go_simp; (first | done | with_reducible rfl)))
        simp only [Act.put, List.setIfInBounds_toArray, List.set_cons_zero, List.set_cons_succ]
        refine takeY (oi := { dst := some 46, op := Op.fieldAddr 24 (Operand.tmp 1) 0, type := 0, pos := "web.go:75", after := #[], guard := none }) 8 (some 46) (v := ?v8_9) rfl rfl (by kernel_rfl) (by kernel_rfl) (by kernel_rfl) (fun _ _ _ h => h) (by kernel_rfl) ?hy9 hH0 ?_
        case hy9 => (intro w_ hSw; (try dsimp only at hSw); go_simp; (first | done | with_reducible rfl | rw [if_neg (by omega)]))
        simp only [Act.put, List.setIfInBounds_toArray, List.set_cons_zero, List.set_cons_succ]
        refine takeY (oi := { dst := some 47, op := Op.load 3 (Operand.tmp 46), type := 3, pos := "web.go:75", after := #[{ on := 8, ground := Ground.data }], guard := none }) 9 (some 47) (v := ?v9_9) rfl rfl (by kernel_rfl) (by kernel_rfl) (by kernel_rfl) (fun _ _ _ h => h) (by kernel_rfl) ?hy9 hH0 ?_
        case hy9 => (intro w_ hSw; (try dsimp only at hSw); (have hc := blk_cell hSw.1 0; go_simp; (first | done | with_reducible rfl)))
        simp only [Act.put, List.setIfInBounds_toArray, List.set_cons_zero, List.set_cons_succ]
        refine wpAnyH_ready (rs := [5]) (by kernel_rfl) (by simp) ?_
        refine AllReadyH.cons (o := { dst := some 43, op := Op.call { callee := Callee.value (Operand.func 34), args := #[Operand.tmp 40, Operand.tmp 42], argTypes := #[9, 9] }, type := 9, pos := "web.go:75", after := #[{ on := 2, ground := Ground.data }, { on := 4, ground := Ground.data }], guard := none }) rfl (fun K1 hK1 => ?_) AllReadyH.nil
        go_simp; refine (web_ValueIndex_calls _ _ _ (by omega) (by omega)).mono ?_; rintro e w2 ⟨rfl, rfl⟩
        refine hK1.out _ _ ?hS9 (fun hH1 => ?_)
        case hS9 => ((try dsimp only); (exact hH0))
        clear hK1 K1
        (try clear hH0)
        (try simp only [Act.put, List.setIfInBounds_toArray, List.set_cons_zero, List.set_cons_succ])
        refine wpAnyH_ready (rs := [10]) (by kernel_rfl) (by simp) ?_
        refine AllReadyH.cons (o := { dst := some 48, op := Op.call { callee := Callee.value (Operand.func 71), args := #[Operand.tmp 47], argTypes := #[3] }, type := 9, pos := "web.go:75", after := #[{ on := 9, ground := Ground.data }, { on := 5, ground := Ground.chain }], guard := none }) rfl (fun K2 hK2 => ?_) AllReadyH.nil
        go_simp; refine (web_five_calls _ _).mono ?_; rintro e w9 ⟨rfl, hb9⟩; have hR9 := Kd.R_below HR4.out hb9; have hB9 := Nat.le_trans hB4 hb9.size; have q1 := blk_below hb9 hH1.1; have q2 := blk_below hb9 hH1.2.1; have q3 := Kd.R_below hH1.2.2.1 hb9; have q4 := keepB0 hb9 hH1.2.2.2
        refine hK2.out _ _ ?hS9 (fun hH2 => ?_)
        case hS9 => ((try dsimp only); (exact ⟨q1, q2, q3, q4⟩))
        clear hK2 K2
        (try clear hH1)
        (try simp only [Act.put, List.setIfInBounds_toArray, List.set_cons_zero, List.set_cons_succ])
        refine takeY (oi := { dst := some 49, op := Op.binOp BinOp.add 9 (Operand.tmp 45) (Operand.tmp 48) 9, type := 9, pos := "web.go:75", after := #[{ on := 7, ground := Ground.data }, { on := 10, ground := Ground.data }], guard := none }) 11 (some 49) (v := ?v11_9) rfl rfl (by kernel_rfl) (by kernel_rfl) (by kernel_rfl) (fun _ _ _ h => h) (by kernel_rfl) ?hy9 hH2 ?_
        case hy9 => (intro w_ hSw; (try dsimp only at hSw); go_simp; (first | done | with_reducible rfl | rw [if_neg (by omega)]))
        simp only [Act.put, List.setIfInBounds_toArray, List.set_cons_zero, List.set_cons_succ]
        refine takeY (oi := { dst := some 50, op := Op.build 39 #[(0, Operand.tmp 43), (1, Operand.tmp 49)], type := 39, pos := "web.go:75", after := #[{ on := 5, ground := Ground.data }, { on := 11, ground := Ground.data }], guard := none }) 12 (some 50) (v := ?v12_9) rfl rfl (by kernel_rfl) (by kernel_rfl) (by kernel_rfl) (fun _ _ _ h => h) (by kernel_rfl) ?hy9 hH2 ?_
        case hy9 => (intro w_ hSw; (try dsimp only at hSw); go_simp; (first | done | with_reducible rfl | rw [if_neg (by omega)]))
        simp only [Act.put, List.setIfInBounds_toArray, List.set_cons_zero, List.set_cons_succ]
        refine wpAnyH_ready (rs := [13]) (by kernel_rfl) (by simp) ?_
        refine AllReadyH.cons (o := { dst := some 51, op := Op.buildSlice 36 1 #[(0, Operand.tmp 50)], type := 36, pos := "web.go:75", after := #[{ on := 12, ground := Ground.data }], guard := none }) rfl (fun K3 hK3 => ?_) AllReadyH.nil
        go_simp
        refine hK3.out _ _ ?hS9 (fun hH3 => ?_)
        case hS9 => ((try dsimp only); (exact ⟨blk_alloc hH2.1 _, blk_alloc hH2.2.1 _, Kd.R_alloc hH2.2.2.1 _, keepB0 (below_al _ _) hH2.2.2.2⟩))
        clear hK3 K3
        (try clear hH2)
        (try simp only [Act.put, List.setIfInBounds_toArray, List.set_cons_zero, List.set_cons_succ])
        refine wpAnyH_ready (rs := [14]) (by kernel_rfl) (by simp) ?_
        refine AllReadyH.cons (o := { dst := some 52, op := Op.call { callee := Callee.builtin Builtin.append, args := #[Operand.tmp 38, Operand.tmp 51], argTypes := #[36, 36] }, type := 36, pos := "web.go:75", after := #[{ on := 0, ground := Ground.data }, { on := 13, ground := Ground.data }, { on := 10, ground := Ground.chain }], guard := none }) rfl (fun K4 hK4 => ?_) AllReadyH.nil
        obtain ⟨v2, w2, hr2, hR2, hb2, hg2, hat2⟩ := run_app_one (ty := 36) hR9 info_Entry Try.underlying36 (kEntry_mkM _ _ _ (propEntry id s ⟨y0, ⟨y1, y2, y3⟩⟩)) (fun _ _ => trivial) hB9 (by simp; omega) rfl (by decide) (by decide); refine step_app (by kernel_rfl) rfl rfl rfl hr2 ?_
        refine hK4.out _ _ ?hS9 (fun hH4 => ?_)
        case hS9 => ((try dsimp only); (exact ⟨blk_grown q1 hR9 hg2 (by decide), blk_grown q2 hR9 hg2 (by decide), R_beside q3 rfl hR9 hg2 (by decide), q4.trans hb2⟩))
        clear hK4 K4
        (try clear hH3)
        (try simp only [Act.put, List.setIfInBounds_toArray, List.set_cons_zero, List.set_cons_succ])
        refine takeY (oi := { dst := some 3, op := Op.assign (Operand.tmp 52), type := 36, pos := "web.go:75", after := #[{ on := 14, ground := Ground.data }, { on := 14, ground := Ground.chain }, { on := 0, ground := Ground.phase }, { on := 1, ground := Ground.phase }, { on := 2, ground := Ground.phase }, { on := 3, ground := Ground.phase }, { on := 4, ground := Ground.phase }, { on := 5, ground := Ground.phase }, { on := 6, ground := Ground.phase }, { on := 7, ground := Ground.phase }, { on := 8, ground := Ground.phase }, { on := 9, ground := Ground.phase }, { on := 10, ground := Ground.phase }, { on := 11, ground := Ground.phase }, { on := 12, ground := Ground.phase }, { on := 13, ground := Ground.phase }, { on := 14, ground := Ground.phase }], guard := none }) 15 (some 3) (v := ?v15_9) rfl rfl (by kernel_rfl) (by kernel_rfl) (by kernel_rfl) (fun _ _ _ h => h) (by kernel_rfl) ?hy9 hH4 ?_
        case hy9 => (intro w_ hSw; (try dsimp only at hSw); go_simp; (first | done | with_reducible rfl | rw [if_neg (by omega)]))
        simp only [Act.put, List.setIfInBounds_toArray, List.set_cons_zero, List.set_cons_succ]
        refine wpAnyH_done (by kernel_rfl) ?_ _
        have hEnd := hH4
        clear hH4
        have HB5 := Lib.hid hEnd.2.2.2
        have HK5 := Lib.hid hEnd.1
        have HR5 := Lib.hid hR2
        clear hR2 hg2 hb2 hR9 q3
        go_wp2
        go_roundw
        case rel =>
          refine ⟨k + 1, by omega, by go_num, HB5, HK5, Lib.hid ?_⟩
          have e := HR5.out
          rw [HT.out]
          exact e
        case measure => simp [intOf]; omega
      · have hlt2 : ¬ (k : Int) < (l.length : Int) := by omega
        go_wp2
        go_ret
        refine ⟨_, rfl, ?_, HB.out⟩
        rw [HE.out]
        have := HR.out
        rwa [List.take_of_length_le (by omega)] at this
  · have hE : entries id s l = [] := by rw [entries, if_neg hc]
    go_enter Try.func20, Try.ntmps20
    go_wp2_with (
      (go_at_call 46; refine (graph_Check_calls _ _ _ _ 1 l [id] _ hs ?hP HF.out ?hI).mono ?_; (case hP => exact Kd.C_below HX.out (keepB0 (below_al _ _) (below_al w _))); (case hI => exact C_boxg (Kd.int .i64) (by decide) _ _ (by simp) id #[.int .i64 id] _ rfl); rintro e w1 ⟨rfl, hb1⟩; have HB1 := Lib.hid (keepB0 hb1 (keepB0 (below_al _ _) (below_al w _))); clear hb1))
    go_ret
    exact ⟨_, rfl, by rw [hE]; exact Kd.R_nil _ _ _ _ _, HB1.out⟩
end Go.Proofs.Ytonbnlfijmapfaa
/- '==' of the program's plain structs. No condition. -/
namespace Go.Proofs.Ytonbnlfijmapfaa
open Go.RowKit Go.Proofs.YtonbnlfijmapfaaW.PrintWords
set_option linter.unusedVariables false
set_option linter.unusedSimpArgs false

deriving instance DecidableEq for SValue
deriving instance DecidableEq for SPrp
deriving instance DecidableEq for SEntry
deriving instance DecidableEq for SKey
deriving instance DecidableEq for SVert
deriving instance DecidableEq for SEdg

theorem data_beq {a b : ByteArray} : (a == b) = decide (a = b) := by
  cases a with | mk x => cases b with | mk y =>
  have e : ((⟨x⟩ : ByteArray) == ⟨y⟩) = (x == y) := rfl
  rw [e, Bool.eq_iff_iff]; simp
theorem toList_eq {a b : ByteArray} : (a.toList == b.toList) = decide (a = b) := by rw [← beq_toListBytes, data_beq]
theorem eqA_Value (d : Nat) (w : World) (x0 y0 : Int) (x1 y1 : Int) (x2 y2 : ByteArray) :
    (Op.equalIn (d + 2) 42 (.agg #[.int .i64 x0, .int .i64 x1, .string x2]) (.agg #[.int .i64 y0, .int .i64 y1, .string y2])).run Try.prog w = .ok (x0 == y0 && (x1 == y1 && (x2.toList == y2.toList))) w := by
  refine eqA_of Try.underlying42 (by kernel_rfl) ?_
  refine eqf_cons (by rfl) (by go_simp; rfl) (by go_simp; rfl) (by go_simp) ?_
  refine eqf_cons (by rfl) (by go_simp; rfl) (by go_simp; rfl) (by go_simp) ?_
  exact eqf_last (by rfl) (by go_simp; rfl) (by go_simp; rfl) (by go_simp)
theorem eqA_Prp (d : Nat) (w : World) (x0 y0 : ByteArray) (x1 y1 : Int) (x2 y2 : Int) (x3 y3 : ByteArray) :
    (Op.equalIn (d + 3) 117 (.agg #[.string x0, .int .i64 x1, .int .i64 x2, .string x3]) (.agg #[.string y0, .int .i64 y1, .int .i64 y2, .string y3])).run Try.prog w = .ok (x0.toList == y0.toList && ((x1 == y1 && (x2 == y2 && (x3.toList == y3.toList))))) w := by
  refine eqA_of Try.underlying117 (by kernel_rfl) ?_
  refine eqf_cons (by rfl) (by go_simp; rfl) (by go_simp; rfl) (by go_simp) ?_
  exact eqf_last (by rfl) (by go_simp) (by go_simp) (eqA_Value (d + 0) w _ _ _ _ _ _)
theorem eqA_Entry (d : Nat) (w : World) (x0 y0 x1 y1 : ByteArray) :
    (Op.equalIn (d + 2) 39 (.agg #[.string x0, .string x1]) (.agg #[.string y0, .string y1])).run Try.prog w = .ok (x0.toList == y0.toList && (x1.toList == y1.toList)) w := by
  refine eqA_of Try.underlying39 (by kernel_rfl) ?_
  refine eqf_cons (by rfl) (by go_simp; rfl) (by go_simp; rfl) (by go_simp) ?_
  exact eqf_last (by rfl) (by go_simp; rfl) (by go_simp; rfl) (by go_simp)
theorem eqA_Key (d : Nat) (w : World) (x0 y0 x1 y1 x2 y2 : Int) (x3 y3 : ByteArray) :
    (Op.equalIn (d + 2) 55 (.agg #[.int .i64 x0, .int .i64 x1, .int .i64 x2, .string x3]) (.agg #[.int .i64 y0, .int .i64 y1, .int .i64 y2, .string y3])).run Try.prog w = .ok (x0 == y0 && (x1 == y1 && (x2 == y2 && (x3.toList == y3.toList)))) w := by
  refine eqA_of Try.underlying55 (by kernel_rfl) ?_
  refine eqf_cons (by rfl) (by go_simp; rfl) (by go_simp; rfl) (by go_simp) ?_
  refine eqf_cons (by rfl) (by go_simp; rfl) (by go_simp; rfl) (by go_simp) ?_
  refine eqf_cons (by rfl) (by go_simp; rfl) (by go_simp; rfl) (by go_simp) ?_
  exact eqf_last (by rfl) (by go_simp; rfl) (by go_simp; rfl) (by go_simp)
/-- Laid ahead of a walk, where it is known how they are. -/
theorem eq_Prp {x0 y0 : ByteArray} {x1 y1 : Int} {x2 y2 : Int} {x3 y3 : ByteArray} {b : Bool} (h : decide ((⟨x0, ⟨x1, x2, x3⟩⟩ : SPrp) = ⟨y0, ⟨y1, y2, y3⟩⟩) = b) (w : World) :
    (Op.equalIn 10000 117 (.agg #[.string x0, .int .i64 x1, .int .i64 x2, .string x3]) (.agg #[.string y0, .int .i64 y1, .int .i64 y2, .string y3])).run Try.prog w = .ok b w := by
  rw [eqA_Prp 9997, ← h]; congr 1; rw [toList_eq, toList_eq, Bool.eq_iff_iff]; simp
theorem eq_Entry {x0 y0 x1 y1 : ByteArray} {b : Bool} (h : decide ((⟨x0, x1⟩ : SEntry) = ⟨y0, y1⟩) = b) (w : World) :
    (Op.equalIn 10000 39 (.agg #[.string x0, .string x1]) (.agg #[.string y0, .string y1])).run Try.prog w = .ok b w := by
  rw [eqA_Entry 9998, ← h]; congr 1; rw [toList_eq, toList_eq, Bool.eq_iff_iff]; simp
theorem eq_Key {x0 y0 x1 y1 x2 y2 : Int} {x3 y3 : ByteArray} {b : Bool} (h : decide ((⟨x0, x1, x2, x3⟩ : SKey) = ⟨y0, y1, y2, y3⟩) = b) (w : World) :
    (Op.equalIn 10000 55 (.agg #[.int .i64 x0, .int .i64 x1, .int .i64 x2, .string x3]) (.agg #[.int .i64 y0, .int .i64 y1, .int .i64 y2, .string y3])).run Try.prog w = .ok b w := by
  rw [eqA_Key 9998, ← h]; congr 1; rw [toList_eq, Bool.eq_iff_iff]; simp
/-- Nothing but draws. -/
def Quiet (w w' : World) : Prop := ∃ m, w' = w.drewN m
theorem quiet_refl (w : World) : Quiet w w := ⟨0, rfl⟩
theorem quiet_below {w w' : World} (h : Quiet w w') (B : Nat) : Below B w w' := by obtain ⟨m, rfl⟩ := h; exact ⟨rfl, rfl, rfl, Nat.le_refl _, fun _ _ => rfl⟩
theorem quiet_step {w w' : World} (h : Quiet w w') (n : Nat) : Quiet w (w'.drewN n) := by obtain ⟨m, rfl⟩ := h; exact ⟨m + n, by simp⟩
end Go.Proofs.Ytonbnlfijmapfaa
/- Plain: texts and what is read of them; unlike things have unlike texts. No condition. -/
namespace Go.Proofs.Ytonbnlfijmapfaa
open Go.RowKit Go.Shelf Go.Proofs.YtonbnlfijmapfaaW.PrintWords
set_option linter.unusedVariables false
set_option linter.unusedSimpArgs false

theorem bytesOf_inj {a b : ByteArray} (h : bytesOf a = bytesOf b) : a = b := by
  cases a with | mk x => cases b with | mk y =>
  simp only [bytesOf] at h
  have h2 : x.toList = y.toList := by
    have := congrArg (List.map fun n : Int => UInt8.ofNat n.toNat) h
    simpa [List.map_map, Function.comp_def] using this
  rw [Array.toList_inj.1 h2]
theorem bytesOf_append (a b : ByteArray) : bytesOf (a ++ b) = bytesOf a ++ bytesOf b := by simp [bytesOf]
def byteList (l : List Int) : Prop := ∀ x ∈ l, 0 ≤ x ∧ x < 256
theorem bytesOf_strOfNums {l : List Int} (h : byteList l) : bytesOf (strOfNums l) = l := by
  simp only [bytesOf, strOfNums, List.map_map]
  conv => rhs; rw [← List.map_id l]
  refine List.map_congr_left fun x hx => ?_
  obtain ⟨h0, h1⟩ := h x hx
  simp only [Function.comp, id]
  have e : (UInt8.ofNat x.toNat).toNat = x.toNat := by simp; omega
  rw [e]; omega
theorem byteList_bytesOf (s : ByteArray) : byteList (bytesOf s) := by
  intro x hx
  simp only [bytesOf, List.mem_map] at hx
  obtain ⟨b, _, rfl⟩ := hx
  have := b.toNat_lt
  omega
theorem byteList_append {a b : List Int} (ha : byteList a) (hb : byteList b) : byteList (a ++ b) := by
  intro x hx
  rcases List.mem_append.1 hx with h | h
  · exact ha x h
  · exact hb x h
theorem byteList_cons {a : Int} {b : List Int} (h0 : 0 ≤ a) (h1 : a < 256) (hb : byteList b) : byteList (a :: b) := by
  intro x hx
  rcases List.mem_cons.1 hx with rfl | h
  · exact ⟨h0, h1⟩
  · exact hb x h
theorem byteList_esc : ∀ {l : List Int}, byteList l → byteList (esc l)
  | [], _ => by simp [esc, byteList]
  | c :: t, h => by
    have h1 := byteList_esc (l := t) (fun x hx => h x (List.mem_cons_of_mem _ hx))
    have h2 := h c List.mem_cons_self
    rw [esc]
    split
    · exact byteList_cons (by omega) (by omega) (byteList_cons (by omega) (by omega) h1)
    · exact byteList_cons h2.1 h2.2 h1
theorem byteList_u8z (u : Int) : byteList ((List.range 8).map (u8z u)) := by
  intro x hx
  simp only [List.mem_map] at hx
  obtain ⟨j, _, rfl⟩ := hx
  unfold u8z
  omega
theorem byteList_val (k n : Int) (s : ByteArray) : byteList (valBytes k n s) := by
  unfold valBytes
  split
  · exact byteList_cons (by omega) (by omega) (byteList_u8z _)
  · exact byteList_cons (by omega) (by omega) (byteList_append (byteList_esc (byteList_bytesOf s)) (by intro x hx; simp at hx; omega))
theorem byteList_prop (p : SPrp) : byteList (propBytes p) :=
  byteList_cons (by omega) (by omega) (byteList_append (byteList_bytesOf _) (byteList_val _ _ _))
theorem byteList_five (n : Int) : byteList (fiveBytes n) := by intro x hx; simp [fiveBytes] at hx; omega

/-- What stands behind a text's end is told apart. -/
theorem esc_end : ∀ {a b : List Int} {x y : List Int}, esc a ++ 0 :: 0 :: x = esc b ++ 0 :: 0 :: y → a = b ∧ x = y
  | [], [], x, y, h => by simpa [esc] using h
  | [], c :: t, x, y, h => by
    simp only [esc, List.nil_append] at h
    split at h <;> simp at h
    · omega
  | c :: t, [], x, y, h => by
    simp only [esc, List.nil_append] at h
    split at h <;> simp at h
    · omega
  | c :: t, d :: r, x, y, h => by
    simp only [esc] at h
    split at h <;> split at h
    · simp only [List.cons_append, List.cons.injEq, true_and] at h
      obtain ⟨rfl, rfl⟩ := esc_end h
      exact ⟨by simp_all, rfl⟩
    · simp only [List.cons_append, List.cons.injEq] at h; omega
    · simp only [List.cons_append, List.cons.injEq] at h; omega
    · simp only [List.cons_append, List.cons.injEq] at h
      obtain ⟨rfl, h⟩ := h
      obtain ⟨rfl, rfl⟩ := esc_end h
      exact ⟨rfl, rfl⟩

theorem u8z_inj {u v : Int} (h0 : 0 ≤ u) (h1 : u < 18446744073709551616) (g0 : 0 ≤ v) (g1 : v < 18446744073709551616) (h : (List.range 8).map (u8z u) = (List.range 8).map (u8z v)) : u = v := by
  have e : ∀ j, j < 8 → u8z u j = u8z v j := by
    intro j hj
    have := congrArg (fun l => l[j]?) h
    simpa [hj] using this
  have e0 := e 0 (by omega); have e1 := e 1 (by omega); have e2 := e 2 (by omega); have e3 := e 3 (by omega)
  have e4 := e 4 (by omega); have e5 := e 5 (by omega); have e6 := e 6 (by omega); have e7 := e 7 (by omega)
  clear e h
  simp only [u8z, Nat.mul_zero, Nat.sub_zero, Nat.reduceMul, Nat.reduceSub, Int.reducePow] at e0 e1 e2 e3 e4 e5 e6 e7
  have a1 : u / 72057594037927936 = v / 72057594037927936 := by omega
  have a2 : u / 281474976710656 = v / 281474976710656 := by omega
  have a3 : u / 1099511627776 = v / 1099511627776 := by omega
  have a4 : u / 4294967296 = v / 4294967296 := by omega
  have a5 : u / 16777216 = v / 16777216 := by omega
  have a6 : u / 65536 = v / 65536 := by omega
  have a7 : u / 256 = v / 256 := by omega
  omega
theorem empty_of {s : ByteArray} (h : s.toList.isEmpty = true) : s = ⟨#[]⟩ := by
  have e : (s.toList == (⟨#[]⟩ : ByteArray).toList) = true := by
    rw [List.isEmpty_iff.1 h]; kernel_rfl
  rw [toList_eq] at e
  exact of_decide_eq_true e
theorem val_end {k n k' n' : Int} {s s' : ByteArray} (hk : valOk k n s = true) (hk' : valOk k' n' s' = true) (h0 : -9223372036854775808 ≤ n) (h1 : n ≤ 9223372036854775807) (g0 : -9223372036854775808 ≤ n') (g1 : n' ≤ 9223372036854775807)
    {x y : List Int} (h : valBytes k n s ++ x = valBytes k' n' s' ++ y) : (k = k' ∧ n = n' ∧ s = s') ∧ x = y := by
  have one : ∀ {k n : Int} {s : ByteArray}, valOk k n s = true → (k = 1 ∧ s = ⟨#[]⟩) ∨ (k = 2 ∧ n = 0) := by
    intro k n s h
    rcases thingV_cases k n s with h2 | h2 | h2
    · rw [h] at h2; cases h2.1
    · obtain ⟨_, rfl, h3, _⟩ := h2
      refine .inl ⟨rfl, ?_⟩
      exact empty_of h3
    · exact .inr ⟨h2.2.1, h2.2.2.1⟩
  rcases one hk with ⟨rfl, rfl⟩ | ⟨rfl, rfl⟩ <;> rcases one hk' with ⟨rfl, rfl⟩ | ⟨rfl, rfl⟩
  · simp only [valBytes, if_true, intBytes, List.cons_append, List.cons.injEq, true_and] at h
    have hl := List.append_inj h (by simp)
    have := u8z_inj (by omega) (by omega) (by omega) (by omega) hl.1
    exact ⟨⟨rfl, by omega, rfl⟩, hl.2⟩
  · simp [valBytes, intBytes] at h
  · simp [valBytes, intBytes] at h
  · simp only [valBytes, show ¬ (2 : Int) = 1 by omega, if_false, List.cons_append, List.cons.injEq, true_and, List.append_assoc, List.nil_append] at h
    obtain ⟨h1, h2⟩ := esc_end h
    exact ⟨⟨rfl, rfl, bytesOf_inj h1⟩, h2⟩

theorem prop_end {p q : SPrp} (hp : p.f1.ok = true) (hq : q.f1.ok = true) (rp : -9223372036854775808 ≤ p.f1.f1 ∧ p.f1.f1 ≤ 9223372036854775807) (rq : -9223372036854775808 ≤ q.f1.f1 ∧ q.f1.f1 ≤ 9223372036854775807) (sp : p.f0.size < 256) (sq : q.f0.size < 256)
    {x y : List Int} (h : propBytes p ++ x = propBytes q ++ y) : p = q ∧ x = y := by
  simp only [propBytes, List.cons_append, List.cons.injEq, List.append_assoc] at h
  obtain ⟨h1, h2⟩ := h
  have hs : p.f0.size = q.f0.size := by omega
  obtain ⟨h3, h4⟩ := List.append_inj h2 (by rw [bytesOf_length, bytesOf_length, hs])
  obtain ⟨⟨e1, e2, e3⟩, h5⟩ := val_end hp hq rp.1 rp.2 rq.1 rq.2 h4
  refine ⟨?_, h5⟩
  cases p with | mk k v => cases v with | mk a b c => cases q with | mk k' v' => cases v' with | mk a' b' c' =>
  simp only at e1 e2 e3 h3
  rw [e1, e2, e3, bytesOf_inj h3]
def shortKeys (ps : List SPrp) : Prop := ∀ p ∈ ps, p.f0.size < 256
theorem flat_inj : ∀ {l m : List SPrp}, l.length = m.length → (∀ p ∈ l, p.f1.ok = true) → (∀ p ∈ m, p.f1.ok = true) → ranged l → ranged m → shortKeys l → shortKeys m → l.flatMap propBytes = m.flatMap propBytes → l = m
  | [], [], _, _, _, _, _, _, _, _ => rfl
  | p :: l, q :: m, hl, h1, h2, r1, r2, s1, s2, h => by
    simp only [List.flatMap_cons] at h
    obtain ⟨rfl, h'⟩ := prop_end (h1 p List.mem_cons_self) (h2 q List.mem_cons_self) (r1 p List.mem_cons_self) (r2 q List.mem_cons_self) (s1 p List.mem_cons_self) (s2 q List.mem_cons_self) h
    rw [flat_inj (by simpa using hl) (fun p hp => h1 p (List.mem_cons_of_mem _ hp)) (fun p hp => h2 p (List.mem_cons_of_mem _ hp)) (fun p hp => r1 p (List.mem_cons_of_mem _ hp)) (fun p hp => r2 p (List.mem_cons_of_mem _ hp)) (fun p hp => s1 p (List.mem_cons_of_mem _ hp)) (fun p hp => s2 p (List.mem_cons_of_mem _ hp)) h']
theorem byteList_props {ps : List SPrp} (h : ps.length ≤ 16) : byteList (propsBytes ps) := by
  refine byteList_cons (by omega) (by omega) ?_
  intro x hx
  obtain ⟨p, _, hx⟩ := List.mem_flatMap.1 hx
  exact byteList_prop p x hx
theorem bytesOf_body {s : ByteArray} {ps : List SPrp} (h : ps.length ≤ 16) : bytesOf (bodyText s ps) = (s.size : Int) % 256 :: (bytesOf s ++ propsBytes ps) := by
  rw [bodyText, bytesOf_append, bytesOf_append, bytesOf_strOfNums (byteList_cons (by omega) (by omega) (by intro x hx; simp at hx)), bytesOf_strOfNums (byteList_props h)]
  rfl
/-- Unlike labels and properties have unlike texts. -/
theorem body_inj {s s' : ByteArray} {l m : List SPrp} (hs : s.size < 256) (hs' : s'.size < 256) (hl : propsRight l = true) (hm : propsRight m = true) (r1 : ranged l) (r2 : ranged m) (s1 : shortKeys l) (s2 : shortKeys m) (h : bodyText s l = bodyText s' m) : s = s' ∧ l = m := by
  obtain ⟨o1, l1⟩ := propsRight_ok hl
  obtain ⟨o2, l2⟩ := propsRight_ok hm
  have h2 := congrArg bytesOf h
  rw [bytesOf_body l1, bytesOf_body l2] at h2
  simp only [List.cons.injEq] at h2
  obtain ⟨h3, h4⟩ := h2
  obtain ⟨h5, h6⟩ := List.append_inj h4 (by rw [bytesOf_length, bytesOf_length]; omega)
  simp only [propsBytes, List.cons.injEq] at h6
  exact ⟨bytesOf_inj h5, flat_inj (by omega) (fun p hp => (o1 p hp).2) (fun p hp => (o2 p hp).2) r1 r2 s1 s2 h6.2⟩
theorem five_inj {a b : Int} (ha : idOk a = true) (hb : idOk b = true) (h : fiveBytes a = fiveBytes b) : a = b := by
  simp only [idOk, Bool.and_eq_true, decide_eq_true_eq] at ha hb
  simp only [fiveBytes, List.cons.injEq, and_true] at h
  obtain ⟨e0, e1, e2, e3, e4⟩ := h
  have a1 : a / 4294967296 = b / 4294967296 := by omega
  have a2 : a / 16777216 = b / 16777216 := by omega
  have a3 : a / 65536 = b / 65536 := by omega
  have a4 : a / 256 = b / 256 := by omega
  omega
theorem five_text_inj {a b : Int} (ha : idOk a = true) (hb : idOk b = true) (h : strOfNums (fiveBytes a) = strOfNums (fiveBytes b)) : a = b := by
  have := congrArg bytesOf h
  rw [bytesOf_strOfNums (byteList_five a), bytesOf_strOfNums (byteList_five b)] at this
  exact five_inj ha hb this
theorem append_five_inj {x y : ByteArray} {a b : Int} (ha : idOk a = true) (hb : idOk b = true) (h : x ++ strOfNums (fiveBytes a) = y ++ strOfNums (fiveBytes b)) : a = b := by
  have := congrArg bytesOf h
  rw [bytesOf_append, bytesOf_append, bytesOf_strOfNums (byteList_five a), bytesOf_strOfNums (byteList_five b)] at this
  exact five_inj ha hb (List.append_inj_right' this rfl)
/-- An entry's id. -/
theorem entries_id {id : Int} {s : ByteArray} {l : List SPrp} {e : SEntry} (he : e ∈ entries id s l) : idOk id = true ∧ ∃ x, e.f1 = x ++ strOfNums (fiveBytes id) := by
  unfold entries at he
  split at he
  · rename_i hc
    have hi := (checkN_ok hc).1
    simp only [List.all_cons, List.all_nil, Bool.and_true] at hi
    refine ⟨hi, ?_⟩
    rcases List.mem_cons.1 he with rfl | he
    · exact ⟨⟨#[]⟩, by apply bytesOf_inj; rw [bytesOf_append]; rfl⟩
    · simp only [List.mem_map] at he
      obtain ⟨p, _, rfl⟩ := he
      exact ⟨_, rfl⟩
  · simp at he
theorem entries_apart {a b : Int} {s t : ByteArray} {l m : List SPrp} {e : SEntry} (h1 : e ∈ entries a s l) (h2 : e ∈ entries b t m) : a = b := by
  obtain ⟨i1, x, e1⟩ := entries_id h1
  obtain ⟨i2, y, e2⟩ := entries_id h2
  exact append_five_inj i1 i2 (e1.symm.trans e2)
theorem entries_length {id : Int} {s : ByteArray} {l : List SPrp} (h : checkN s l [id] = 0) : (entries id s l).length = l.length + 1 := by
  rw [entries, if_pos h]; simp
/-- Two edges from and to: alike just if the ends are one. -/
theorem edge_turn {a b : Int} (ha : idOk a = true) (hb : idOk b = true) (t : ByteArray) : (strOfNums (fiveBytes a) ++ strOfNums (fiveBytes b) ++ t = strOfNums (fiveBytes b) ++ strOfNums (fiveBytes a) ++ t) ↔ a = b := by
  refine ⟨fun h => ?_, fun h => by rw [h]⟩
  have := congrArg bytesOf h
  simp only [bytesOf_append, bytesOf_strOfNums (byteList_five a), bytesOf_strOfNums (byteList_five b), List.append_assoc] at this
  exact five_inj ha hb (List.append_inj_left this rfl)
end Go.Proofs.Ytonbnlfijmapfaa
/- Plain: which properties bytes begin with: what is right of them; a text's parts. No condition. -/
namespace Go.Proofs.Ytonbnlfijmapfaa
open Go Go.Proofs.YtonbnlfijmapfaaW.PrintWords

/-- What is right of properties that were read. -/
def readOk (ps : List SPrp) : Prop := ∀ p ∈ ps, p.f0.size < 256 ∧ valOk p.f1.f0 p.f1.f1 p.f1.f2 = true ∧ -9223372036854775808 ≤ p.f1.f1 ∧ p.f1.f1 ≤ 9223372036854775807
theorem readOk_fits {ps : List SPrp} (h : readOk ps) : fits ps := fun p hp => by have := (h p hp).1; omega
theorem readOk_ranged {ps : List SPrp} (h : readOk ps) : ranged ps := fun p hp => (h p hp).2.2
theorem tpGo_ok {b : List Int} (hb : ∀ x ∈ b, 0 ≤ x ∧ x < 256) : ∀ (n : Nat) (out : List SPrp) (a : Nat), readOk out → a ≤ b.length → readOk (tpGo b n out a).1 ∧ 0 ≤ (tpGo b n out a).2.1 ∧ (tpGo b n out a).2.1 ≤ b.length
  | 0, out, a, h, ha => by rw [tpGo]; exact ⟨h, by simp, by simpa using ha⟩
  | n + 1, out, a, h, ha => by
    have h0 : readOk [] := fun p hp => by simp at hp
    by_cases h1 : b.length < a + 1 + keyLen b a ∨ b.length ≤ a
    · rw [tpGo_short h1]; exact ⟨h0, by simp, by simp⟩
    · by_cases h2 : nameRight (keyAt b a) = false ∨ orderBad out (keyAt b a) = true
      · rw [tpGo_name h1 h2]; exact ⟨h0, by simp, by simp⟩
      · obtain ⟨⟨v, m, e⟩, hr⟩ : ∃ r, takeV (b.drop (a + 1 + keyLen b a)) = r := ⟨_, rfl⟩
        by_cases he : e = 0
        · subst he
          rw [tpGo_step h1 h2 hr]
          obtain ⟨m0, m1, m2, m3, m4⟩ := takeV_ok (fun z hz => hb z (List.mem_of_mem_drop hz)) hr
          rw [List.length_drop] at m1
          refine tpGo_ok hb n _ _ (fun p hp => ?_) (by omega)
          rcases List.mem_append.1 hp with hp | hp
          · exact h p hp
          · simp only [List.mem_singleton] at hp
            subst hp
            refine ⟨?_, m2, m3, m4⟩
            have ha2 : a < b.length := by omega
            have hk : keyLen b a < 256 := by
              have := hb (b.getD a 0) (by rw [List.getD_eq_getElem?_getD, List.getElem?_eq_getElem ha2]; exact List.getElem_mem _)
              unfold keyLen; omega
            show (keyAt b a).size < 256
            rw [keyAt]
            simp [strOfNums, ByteArray.size]; omega
        · rw [tpGo_bad h1 h2 hr he]; exact ⟨h0, by simp, by simp⟩
theorem takeP_ok {b : List Int} (hb : ∀ x ∈ b, 0 ≤ x ∧ x < 256) : readOk (takeP b).1 ∧ 0 ≤ (takeP b).2.1 ∧ (takeP b).2.1 ≤ b.length := by
  have h0 : readOk [] := fun p hp => by simp at hp
  cases b with
  | nil => exact ⟨h0, by simp [takeP], by simp [takeP]⟩
  | cons x t =>
    simp only [takeP]
    split
    · exact ⟨h0, by simp, by simp only [List.length_cons]; omega⟩
    · exact tpGo_ok hb _ _ _ h0 (by simp)

/-- The first letter. -/
def headLen (s : ByteArray) : Nat := ((bytesOf s).getD 0 0).toNat
/-- A label and properties, out of a text. -/
def parseT (s : ByteArray) : ByteArray × List SPrp × Bool :=
  if s.size = 0 ∨ s.size < 1 + headLen s then (⟨#[]⟩, [], false)
  else (s.extract 1 (1 + headLen s), (takeP (bytesOf (s.extract (1 + headLen s) s.size))).1, decide ((takeP (bytesOf (s.extract (1 + headLen s) s.size))).2.2 = 0) && decide ((1 + headLen s : Int) + (takeP (bytesOf (s.extract (1 + headLen s) s.size))).2.1 = s.size))
theorem parseT_ok (s : ByteArray) : readOk (parseT s).2.1 := by
  unfold parseT
  split
  · intro p hp; simp at hp
  · exact (takeP_ok (fun x hx => byteList_bytesOf _ x hx)).1
theorem parseT_size (s : ByteArray) : (parseT s).1.size ≤ s.size := by
  unfold parseT
  split
  · exact Nat.zero_le _
  · simp [ByteArray.size_extract]; omega
theorem headLen_at {s : ByteArray} (h : 0 < s.size) : (s[0]'h).toNat = headLen s := by
  have e : (bytesOf s).getD 0 0 = ((s[0]'h).toNat : Int) := by
    have hl : 0 < (bytesOf s).length := by rw [bytesOf_length]; exact h
    rw [List.getD_eq_getElem?_getD, List.getElem?_eq_getElem hl]
    simp [bytesOf]
    rfl
  rw [headLen, e]; rfl
end Go.Proofs.Ytonbnlfijmapfaa
/- Lists held against each other: cobwebref03.Same, cobwebref16.SameV. -/
namespace Go.Proofs.Ytonbnlfijmapfaa
open Go.RowKit Go.Shelf Go.Proofs.YtonbnlfijmapfaaW.PrintWords
set_option linter.unusedVariables false
set_option linter.unusedSimpArgs false

theorem take_step {α : Type} (a b : List α) (k : Nat) (z : α) (h1 : k < a.length) (h2 : k < b.length) (h : a.take k = b.take k) (e : a.getD k z = b.getD k z) : a.take (k + 1) = b.take (k + 1) := by
  rw [List.take_succ_eq_append_getElem h1, List.take_succ_eq_append_getElem h2, h]
  simp only [List.getD_eq_getElem?_getD, List.getElem?_eq_getElem h1, List.getElem?_eq_getElem h2, Option.getD_some] at e
  rw [e]
theorem take_unlike {α : Type} {a b : List α} {k : Nat} {z : α} (e : ¬ a.getD k z = b.getD k z) : ¬ a = b := fun h => e (by rw [h])

set_option maxRecDepth 100000 in
set_option maxHeartbeats 2000000 in
theorem ref03_Same_calls (A B : Option Addr) (c d : Nat) (a b : List SPrp) (w : World) (ha : kPrp.C w A a.length a) (hb : kPrp.C w B b.length b) :
    Calls Try.prog 70 #[.slice A a.length c, .slice B b.length d] w fun e w' => e = .returned (.bool (decide (a = b))) ∧ Quiet w w' := by
  have hm := Kd.C_max ha
  have HX := Lib.hid ha; clear ha
  have HY := Lib.hid hb; clear hb
  go_enter Try.func70, Try.ntmps70
  by_cases hl : a.length = b.length
  · have hl2 : ((a.length : Int) = (b.length : Int)) := by omega
    go_wp2
    go_loopw [5] (fun v5 wr => ∃ (k : Nat), k ≤ a.length ∧ v5 = .int .i64 k ∧ Hid (Quiet w wr) ∧ Hid (a.take k = b.take k)) (fun v5 _ => a.length - (intOf v5).toNat)
    case atStart => exact ⟨0, by omega, rfl, Lib.hid (quiet_refl _), Lib.hid rfl⟩
    case round =>
      obtain ⟨k, hk, rfl, HB, HT⟩ := hrel
      by_cases hlt : k < a.length
      · have hlt2 : (k : Int) < (a.length : Int) := by omega
        have hlt3 : (k : Int) < (b.length : Int) := by omega
        obtain ⟨ad, rfl, g0, g1, g2, g3⟩ := at_Prp (Kd.C_below HX.out (quiet_below HB.out _)) (k : Int) (by omega) (by omega)
        obtain ⟨bd, rfl, f0, f1, f2, f3⟩ := at_Prp (Kd.C_below HY.out (quiet_below HB.out _)) (k : Int) (by omega) (by omega)
        simp only [Int.toNat_natCast, rd_Prp] at g0 g1 g2 g3 f0 f1 f2 f3
        by_cases he : a.getD k zPrp = b.getD k zPrp
        · have HS := Lib.hid (take_step a b k zPrp hlt (by omega) HT.out he)
          rw [← he] at f0 f1 f2 f3
          cases hy : a.getD k zPrp with
          | mk y0 yv =>
          cases yv with
          | mk y1 y2 y3 =>
          rw [hy] at g0 g1 g2 g3 f0 f1 f2 f3
          clear hy he
          simp only at g0 g1 g2 g3 f0 f1 f2 f3
          have q := eq_Prp (decide_eq_true (Eq.refl (⟨y0, ⟨y1, y2, y3⟩⟩ : SPrp)))
          go_wp2_with fail
          go_quiet (fail)
          go_wp2
          go_roundw
          case rel => exact ⟨k + 1, by omega, by go_num, Lib.hid (quiet_step HB.out _), HS⟩
          case measure => simp [intOf]; omega
        · have HN := Lib.hid (show decide (a = b) = false from decide_eq_false (take_unlike he))
          cases hy : a.getD k zPrp with
          | mk y0 yv =>
          cases yv with
          | mk y1 y2 y3 =>
          cases hx : b.getD k zPrp with
          | mk x0 xv =>
          cases xv with
          | mk x1 x2 x3 =>
          rw [hx, hy] at he
          rw [hy] at g0 g1 g2 g3 
          rw [hx] at f0 f1 f2 f3
          clear hx hy
          simp only at g0 g1 g2 g3 f0 f1 f2 f3
          have q := eq_Prp (decide_eq_false he)
          go_wp2_with fail
          go_quiet (fail)
          go_wp2
          go_ret
          exact ⟨ret_bool HN.out.symm, quiet_step HB.out _⟩
      · have hlt2 : ¬ (k : Int) < (b.length : Int) := by omega
        go_wp2
        go_ret
        refine ⟨ret_bool (Eq.symm (decide_eq_true ?_)), HB.out⟩
        have := HT.out
        rwa [List.take_of_length_le (by omega), List.take_of_length_le (by omega)] at this
  · have hl2 : ¬ ((a.length : Int) = (b.length : Int)) := by omega
    go_wp2
    go_ret
    exact ⟨ret_bool (Eq.symm (decide_eq_false (fun h => hl (by rw [h])))), quiet_refl _⟩

end Go.Proofs.Ytonbnlfijmapfaa
/- cobwebref16.SameV. -/
namespace Go.Proofs.Ytonbnlfijmapfaa
open Go.RowKit Go.Shelf Go.Proofs.YtonbnlfijmapfaaW.PrintWords
set_option linter.unusedVariables false
set_option linter.unusedSimpArgs false

set_option maxRecDepth 100000 in
set_option maxHeartbeats 4000000 in
theorem ref16_SameV_calls (A B : Option Addr) (c d : Nat) (a b : List SVert) (w : World) (ha : kVert.C w A a.length a) (hb : kVert.C w B b.length b) :
    Calls Try.prog 18 #[.slice A a.length c, .slice B b.length d] w fun e w' => e = .returned (.bool (decide (a = b))) ∧ Quiet w w' := by
  have hm := Kd.C_max ha
  have HX := Lib.hid ha; clear ha
  have HY := Lib.hid hb; clear hb
  go_enter Try.func18, Try.ntmps18
  by_cases hl : a.length = b.length
  · have hl2 : ((a.length : Int) = (b.length : Int)) := by omega
    go_wp2
    go_loopw [5] (fun v5 wr => ∃ (k : Nat), k ≤ a.length ∧ v5 = .int .i64 k ∧ Hid (Quiet w wr) ∧ Hid (a.take k = b.take k)) (fun v5 _ => a.length - (intOf v5).toNat)
    case atStart => exact ⟨0, by omega, rfl, Lib.hid (quiet_refl _), Lib.hid rfl⟩
    case round =>
      obtain ⟨k, hk, rfl, HB, HT⟩ := hrel
      by_cases hlt : k < a.length
      · have hlt2 : (k : Int) < (a.length : Int) := by omega
        have hlt3 : (k : Int) < (b.length : Int) := by omega
        obtain ⟨ad, A2, c2, rfl, g0, g1, g2, _, hA⟩ := at_Vert (Kd.C_below HX.out (quiet_below HB.out _)) (k : Int) (by omega) (by omega)
        obtain ⟨bd, B2, d2, rfl, f0, f1, f2, _, hB⟩ := at_Vert (Kd.C_below HY.out (quiet_below HB.out _)) (k : Int) (by omega) (by omega)
        simp only [Int.toNat_natCast, rd_Vert] at g0 g1 g2 f0 f1 f2 hA hB
        have HE := Lib.hid (fun e => take_step a b k zVert hlt (by omega) HT.out e)
        have HN := Lib.hid (fun e => take_unlike (a := a) (b := b) (k := k) (z := zVert) e)
        cases hy : a.getD k zVert with
        | mk y0 y1 y2 =>
        cases hx : b.getD k zVert with
        | mk x0 x1 x2 =>
        rw [hy] at g0 g1 g2 hA HE HN
        rw [hx] at f0 f1 f2 hB HE HN
        clear hx hy
        simp only at g0 g1 g2 f0 f1 f2 hA hB
        by_cases h0 : y0 = x0
        · subst h0
          by_cases h1 : y1 = x1
          · subst h1
            have q := fun w2 hb => ref03_Same_calls A2 B2 c2 d2 y2 x2 w2 (Kd.C_below hA hb) (Kd.C_below hB hb)
            have HQ := Lib.hid q; clear q
            cases h2 : decide (y2 = x2) with
            | true =>
              rw [h2] at HQ
              go_wp2_with fail
              go_big_quiet ((go_at_call 70; exact Calls.quiet_of (HQ.out _ (pw_below_drewN (Below.refl _ _) _))))
              go_wp2
              go_roundw
              case rel => exact ⟨k + 1, by omega, by go_num, Lib.hid (quiet_step HB.out _), Lib.hid (HE.out (by rw [of_decide_eq_true h2]))⟩
              case measure => simp [intOf]; omega
            | false =>
              rw [h2] at HQ
              go_wp2_with fail
              go_big_quiet ((go_at_call 70; exact Calls.quiet_of (HQ.out _ (pw_below_drewN (Below.refl _ _) _))))
              go_wp2
              go_ret
              exact ⟨ret_bool (Eq.symm (decide_eq_false (HN.out (by simp [of_decide_eq_false h2])))), quiet_step HB.out _⟩
          · have h1' : (y1.toList == x1.toList) = false := by rw [toList_eq]; exact decide_eq_false h1
            go_wp2_with fail
            go_big_quiet (fail)
            go_wp2
            go_ret
            exact ⟨ret_bool (Eq.symm (decide_eq_false (HN.out (by simp [h1])))), quiet_step HB.out _⟩
        · have h0' : (y0 != x0) = true := by simp [h0]
          go_wp2_with fail
          go_big_quiet (fail)
          go_wp2
          go_ret
          exact ⟨ret_bool (Eq.symm (decide_eq_false (HN.out (by simp [h0])))), quiet_step HB.out _⟩
      · have hlt2 : ¬ (k : Int) < (b.length : Int) := by omega
        go_wp2
        go_ret
        refine ⟨ret_bool (Eq.symm (decide_eq_true ?_)), HB.out⟩
        have := HT.out
        rwa [List.take_of_length_le (by omega), List.take_of_length_le (by omega)] at this
  · have hl2 : ¬ ((a.length : Int) = (b.length : Int)) := by omega
    go_wp2
    go_ret
    exact ⟨ret_bool (Eq.symm (decide_eq_false (fun h => hl (by rw [h])))), quiet_refl _⟩
end Go.Proofs.Ytonbnlfijmapfaa
/- cobweblaw21.props, awake; web.VertexKey. -/
namespace Go.Proofs.Ytonbnlfijmapfaa
open Go.RowKit Go.Shelf Go.Proofs.YtonbnlfijmapfaaW.PrintWords
set_option linter.unusedVariables false
set_option linter.unusedSimpArgs false

/-- Not too many, not too long. -/
def small (p : SPrp) : Bool := decide (p.f0.size ≤ 100) && decide (p.f1.f2.size ≤ 300)
def lawProps (ps : List SPrp) : Bool := decide (ps.length ≤ 30) && ps.all small
theorem small_fits {ps : List SPrp} (h : lawProps ps = true) : fits ps := by
  simp only [lawProps, Bool.and_eq_true, List.all_eq_true, small, decide_eq_true_eq] at h
  intro p hp; have := (h.2 p hp).1; omega

set_option maxHeartbeats 2000000 in
theorem law21_props_calls (A : Option Addr) (c : Nat) (l : List SPrp) (w : World) (h : kPrp.C w A l.length l) :
    Calls Try.prog 16 #[.slice A l.length c] w fun e w' => e = .returned (.bool (lawProps l)) ∧ w = w' := by
  have hm := Kd.C_max h
  have HX := Lib.hid h; clear h
  by_cases h30 : l.length ≤ 30
  · have hz : ¬ (30 : Int) < (l.length : Int) := by omega
    go_enter Try.func16, Try.ntmps16
    go_wp2
    go_loopw [3] (fun v3 wr => ∃ k : Nat, k ≤ l.length ∧ v3 = .int .i64 k ∧ wr = w ∧ Hid ((l.drop k).all small = l.all small)) (fun v3 _ => l.length - (intOf v3).toNat)
    case atStart => exact ⟨0, by omega, rfl, rfl, Lib.hid rfl⟩
    case round =>
      obtain ⟨k, hk, rfl, rfl, HT⟩ := hrel
      by_cases hlt : k < l.length
      · have hlt2 : (k : Int) < (l.length : Int) := by omega
        have HS := Lib.hid (drop_cons l k zPrp hlt)
        obtain ⟨ad, rfl, g0, g1, g2, g3⟩ := at_Prp HX.out (k : Int) (by omega) (by omega)
        simp only [Int.toNat_natCast, rd_Prp] at g0 g1 g2 g3
        cases hy : l.getD k zPrp with
        | mk y0 yv =>
        cases yv with
        | mk y1 y2 y3 =>
        rw [hy] at g0 g1 g2 g3 HS
        clear hy
        simp only at g0 g1 g2 g3
        by_cases h0 : y0.size ≤ 100
        · have e0 : ¬ (100 : Int) < (y0.size : Int) := by omega
          by_cases h1 : y3.size ≤ 300
          · have e1 : ¬ (300 : Int) < (y3.size : Int) := by omega
            go_wp2
            go_roundw
            case rel => exact ⟨k + 1, by omega, by go_num, by trivial, Lib.hid (by rw [← HT.out, HS.out]; simp [small, h0, h1])⟩
            case measure => simp [intOf]; omega
          · have e1 : (300 : Int) < (y3.size : Int) := by omega
            go_wp2
            go_ret
            exact ⟨ret_bool (by rw [lawProps, ← HT.out, HS.out]; simp [small, h1]), rfl⟩
        · have e0 : (100 : Int) < (y0.size : Int) := by omega
          go_wp2
          go_ret
          exact ⟨ret_bool (by rw [lawProps, ← HT.out, HS.out]; simp [small, h0]), rfl⟩
      · have hlt2 : ¬ (k : Int) < (l.length : Int) := by omega
        go_wp2
        go_ret
        refine ⟨ret_bool ?_, rfl⟩
        have := HT.out
        rw [List.drop_eq_nil_of_le (by omega)] at this
        rw [lawProps, ← this, decide_eq_true h30]; rfl
  · have hz : (30 : Int) < (l.length : Int) := by omega
    go_enter Try.func16, Try.ntmps16
    go_wp2
    go_ret
    exact ⟨ret_bool (by rw [lawProps, decide_eq_false h30]; rfl), rfl⟩

set_option maxHeartbeats 1000000 in
theorem web_VertexKey_calls (a : Int) (w : World) :
    Calls Try.prog 27 #[.int .i64 a] w fun e w' => e = .returned (.agg #[.int .i64 1, .int .i64 a, .int .i64 0, .string ⟨#[]⟩]) ∧ Below w.heap.size w w' := by
  go_enter Try.func27, Try.ntmps27
  go_wp2
  refine bodyPost_ret (results_cell_row rfl _ _ w.heap.size 55 _ (0, 0) _ rfl (heap_alloc_new _ _) Try.underlying55 rfl (by kernel_rfl)) rfl ?_
  exact ⟨rfl, below_al _ _⟩
end Go.Proofs.Ytonbnlfijmapfaa
/- cobweblaw21.awake. -/
namespace Go.Proofs.Ytonbnlfijmapfaa
open Go.RowKit Go.Shelf Go.Proofs.YtonbnlfijmapfaaW.PrintWords
set_option linter.unusedVariables false
set_option linter.unusedSimpArgs false

theorem awake_check : checkN ⟨#[97]⟩ [] [7] = 0 := by kernel_rfl
theorem awake_text : vertexText 7 ⟨#[97]⟩ [] = ⟨#[1, 97, 0]⟩ := by kernel_rfl
theorem awake_entries : entries 7 ⟨#[97]⟩ [] = [⟨⟨#[76, 97]⟩, ⟨#[0, 0, 0, 0, 7]⟩⟩] := by kernel_rfl

set_option maxRecDepth 100000 in
set_option maxHeartbeats 2000000 in
theorem law21_awake_calls (w : World) :
    Calls Try.prog 15 #[] w fun e w' => e = .returned (.bool true) ∧ Below w.heap.size w w' := by
  have q1 := eq_Entry (decide_eq_true (Eq.refl (⟨⟨#[76, 97]⟩, ⟨#[0, 0, 0, 0, 7]⟩⟩ : SEntry)))
  have q2 := eq_Key (decide_eq_true (Eq.refl (⟨1, 7, 0, ⟨#[]⟩⟩ : SKey)))
  have hf : fits [] := fun _ h => by simp at h
  have hg : ranged [] := fun _ h => by simp at h
  go_enter Try.func15, Try.ntmps15
  go_wp2_with (first
    | (go_at_call 17; refine (web_VertexText_calls 7 ⟨#[97]⟩ none 0 [] _ (by decide) (Kd.C_nil _ _) hf hg).mono ?_; rw [awake_text, awake_check]; rintro e w1 ⟨rfl, hb1⟩; have K1 : w1.cell? ⟨w.heap.size, 0, none⟩ = some (.int .i64 7) ∧ w1.cell? ⟨w.heap.size, 1, none⟩ = some (.string ⟨#[97]⟩) ∧ w1.cell? ⟨w.heap.size, 2, none⟩ = some (.slice none 0 0) := (fun K => ⟨blk_cell K 0, blk_cell K 1, blk_cell K 2⟩) (blk_below hb1 (blk_new w #[.int .i64 7, .string ⟨#[97]⟩, .slice none 0 0] 24)); obtain ⟨K1, K2, K3⟩ := K1; have HB1 := Lib.hid (keepB0 hb1 (below_al _ _)); clear hb1)
    | (go_at_call 20; refine (web_Entries_calls 7 ⟨#[97]⟩ none 0 [] _ (by decide) (Kd.C_nil _ _) hf hg).mono ?_; rw [awake_entries]; rintro e w2 ⟨v2, rfl, hR2, hb2⟩; have HB2 := Lib.hid (keepB0 hb2 HB1.out); clear hb2; obtain ⟨A2, c2, rfl, -, hC2⟩ := Kd.R_reads hR2; obtain ⟨ad, rfl, g0, g1⟩ := at_Entry hC2 0 (by decide) (by decide); simp only [rd_Entry, Int.toNat_zero, Nat.zero_mul, add_zero_] at g0 g1)
    | (go_at_call 27; refine (web_VertexKey_calls _ _).mono ?_; rintro e w3 ⟨rfl, hb3⟩; have HB3 := Lib.hid (keepB0 hb3 HB2.out); clear hb3))
  go_ret
  exact ⟨rfl, HB3.out⟩
end Go.Proofs.Ytonbnlfijmapfaa
/- Small laws: a call that only reads, behind draws. No condition. -/
namespace Go.Proofs.Ytonbnlfijmapfaa
open Go.RowKit Go.Shelf Go.Proofs.YtonbnlfijmapfaaW.PrintWords
set_option linter.unusedVariables false
set_option linter.unusedSimpArgs false

/-- A contract that leaves the world alone, behind draws that were joined. -/
theorem quiet_joined {P : Program} {f : FuncId} {args : Array Value} {w : World} {a n : Nat} {v : Value} (c : ∀ W : World, Calls P f args W fun e w' => e = .returned v ∧ W = w') :
    Calls P f args (w.drewN (a + n)) fun e w'' => e = .returned v ∧ ∃ m, w'' = w.drewN (a + m) :=
  (c _).mono fun _ _ ⟨he, hm⟩ => ⟨he, n, hm.symm⟩
theorem quiet_once {P : Program} {f : FuncId} {args : Array Value} {w : World} {n : Nat} {v : Value} (c : ∀ W : World, Calls P f args W fun e w' => e = .returned v ∧ W = w') :
    Calls P f args (w.drewN n) fun e w'' => e = .returned v ∧ ∃ m, w'' = w.drewN m :=
  (c _).mono fun _ _ ⟨he, hm⟩ => ⟨he, n, hm.symm⟩
theorem R_box1g {W : World} {base : Nat} {T g : Nat} (hg : g = W.heap.size) (x : Int) (k : IntKind) (hb : base ≤ W.heap.size) : (Kd.int k).R T (W.alloc (.cells #[.int k x] T)) base (fun _ => True) (.slice (some ⟨g, 0, none⟩) 1 1) [x] := by
  subst hg; exact R_box1 x k hb
/-- In the midst of a region: from here on more is kept. -/
theorem wpAnyH_stronger {P : Program} {md : Region.Mode} {ops : Array Oper} {Q : Exit → Act → World → Prop} {S S2 : World → Prop} (hS : ∀ w, S2 w → S w) :
    ∀ (fuel : Nat) (listed : Array Bool) (a : Act) (w : World), wpAnyH P md ops Q S2 fuel listed a w → wpAnyH P md ops Q S fuel listed a w
  | 0, _, _, _, h => h
  | fuel + 1, _, _, _, h => ⟨h.1, fun i hi => wpOp_mono (fun a' w' h' => ⟨hS _ h'.1, wpAnyH_stronger hS fuel _ a' w' h'.2⟩) (h.2 i hi)⟩
theorem blk_frozen {w : World} {b : Nat} {cs : Array Value} {t : Nat} (h : Blk w b cs t) (o : Nat) : w.frozen? ⟨b, o, none⟩ = false := by
  rw [Blk] at h
  simp [World.frozen?, h]
theorem blk_set {w : World} {b : Nat} {cs : Array Value} {t : Nat} (h : Blk w b cs t) (i : Nat) (u : Value) : Blk (w.setCell ⟨b, i, none⟩ u) b (cs.setIfInBounds i u) t := by
  rw [Blk] at h
  simp [Blk, World.setCell, Array.getElem?_modify, h]
theorem blk_set_other {w : World} {b : Nat} {cs : Array Value} {t : Nat} (h : Blk w b cs t) (a : Addr) (u : Value) (hne : b ≠ a.block) : Blk (w.setCell a u) b cs t := by
  rw [Blk, Below.heap_setCell w a u b hne]; exact h
/-- A struct of three cells is stored whole. -/
theorem blk_set3 {w : World} {b : Nat} {v0 v1 v2 : Value} {t : Nat} (h : Blk w b #[v0, v1, v2] t) (u0 u1 u2 : Value) : Blk (((w.setCell ⟨b, 0, none⟩ u0).setCell ⟨b, 1, none⟩ u1).setCell ⟨b, 2, none⟩ u2) b #[u0, u1, u2] t :=
  blk_set (blk_set (blk_set h 0 u0) 1 u1) 2 u2
theorem blk_set5 {w : World} {b : Nat} {v0 v1 v2 v3 v4 : Value} {t : Nat} (h : Blk w b #[v0, v1, v2, v3, v4] t) (u0 u1 u2 u3 u4 : Value) : Blk (((((w.setCell ⟨b, 0, none⟩ u0).setCell ⟨b, 1, none⟩ u1).setCell ⟨b, 2, none⟩ u2).setCell ⟨b, 3, none⟩ u3).setCell ⟨b, 4, none⟩ u4) b #[u0, u1, u2, u3, u4] t :=
  blk_set (blk_set (blk_set (blk_set (blk_set h 0 u0) 1 u1) 2 u2) 3 u3) 4 u4
theorem below_set3 {B : Nat} {w W : World} (h : Below B w W) {b : Nat} (hb : B ≤ b) (u0 u1 u2 : Value) : Below B w (((W.setCell ⟨b, 0, none⟩ u0).setCell ⟨b, 1, none⟩ u1).setCell ⟨b, 2, none⟩ u2) :=
  ((h.setCell (p := ⟨b, 0, none⟩) hb _).setCell (p := ⟨b, 1, none⟩) hb _).setCell (p := ⟨b, 2, none⟩) hb _
theorem below_set5 {B : Nat} {w W : World} (h : Below B w W) {b : Nat} (hb : B ≤ b) (u0 u1 u2 u3 u4 : Value) : Below B w (((((W.setCell ⟨b, 0, none⟩ u0).setCell ⟨b, 1, none⟩ u1).setCell ⟨b, 2, none⟩ u2).setCell ⟨b, 3, none⟩ u3).setCell ⟨b, 4, none⟩ u4) :=
  ((((h.setCell (p := ⟨b, 0, none⟩) hb _).setCell (p := ⟨b, 1, none⟩) hb _).setCell (p := ⟨b, 2, none⟩) hb _).setCell (p := ⟨b, 3, none⟩) hb _).setCell (p := ⟨b, 4, none⟩) hb _
theorem add_more (ad : Addr) (n : Nat) : ad.add (n + 1) = ⟨ad.block, ad.off + (n + 1), none⟩ := by simp [Addr.add]
theorem add_off (g o j : Nat) : (⟨g, o, none⟩ : Addr).add j = ⟨g, o + j, none⟩ := by unfold Addr.add; split <;> simp_all
end Go.Proofs.Ytonbnlfijmapfaa
/- cobwebref02.sign, Order, Compare. -/
namespace Go.Proofs.Ytonbnlfijmapfaa
open Go.RowKit Go.Shelf Go.Proofs.YtonbnlfijmapfaaW.PrintWords
set_option linter.unusedVariables false
set_option linter.unusedSimpArgs false

set_option maxHeartbeats 1000000 in
theorem ref02_sign_calls (b : Bool) (w : World) :
    Calls Try.prog 73 #[.bool b] w fun e w' => e = .returned (.int .i64 (if b = true then -1 else 1)) ∧ w = w' := by
  cases b
  · go_enter Try.func73, Try.ntmps73
    go_wp2
    go_ret
    exact ⟨rfl, rfl⟩
  · go_enter Try.func73, Try.ntmps73
    go_wp2
    go_ret
    exact ⟨rfl, rfl⟩

theorem bytesOf_dropc (s : ByteArray) (k : Nat) (h : k < s.size) : (bytesOf s).drop k = ((s[k]'h).toNat : Int) :: (bytesOf s).drop (k + 1) := by
  have hl : k < (bytesOf s).length := by rw [bytesOf_length]; exact h
  rw [List.drop_eq_getElem_cons hl]
  congr 1
  simp [bytesOf]
  rfl
theorem ord_signT (x y : Int) (a b : List Int) (h : ¬ x = y) : ord (x :: a) (y :: b) = if decide (x < y) = true then -1 else 1 := by
  rw [ord_cons, if_neg h]; simp

set_option maxHeartbeats 2000000 in
theorem ref02_Order_calls (a b : ByteArray) (w : World) (ha : a.size ≤ 140737488355328) (hb : b.size ≤ 140737488355328) :
    Calls Try.prog 26 #[.string a, .string b] w fun e w' => e = .returned (.int .i64 (ord (bytesOf a) (bytesOf b))) ∧ Quiet w w' := by
  go_enter Try.func26, Try.ntmps26
  go_wp2
  go_loopw [5] (fun v5 wr => ∃ (k : Nat), k ≤ a.size ∧ k ≤ b.size ∧ v5 = .int .i64 k ∧ Hid (Quiet w wr) ∧ Hid (ord ((bytesOf a).drop k) ((bytesOf b).drop k) = ord (bytesOf a) (bytesOf b))) (fun v5 _ => a.size - (intOf v5).toNat)
  case atStart => exact ⟨0, by omega, by omega, rfl, Lib.hid (quiet_refl _), Lib.hid rfl⟩
  case round =>
    obtain ⟨k, hk, hk2, rfl, HB, HT⟩ := hrel
    by_cases hlt : k < a.size
    · have hlt1 : (k : Int) < (a.size : Int) := by omega
      by_cases hlt2 : k < b.size
      · have hlt3 : (k : Int) < (b.size : Int) := by omega
        have HA := Lib.hid (bytesOf_dropc a k hlt)
        have HC := Lib.hid (bytesOf_dropc b k hlt2)
        have q := ref02_sign_calls
        by_cases he : ((a[k]'hlt).toNat : Int) = ((b[k]'hlt2).toNat : Int)
        · have he1 : (((a[k]'hlt).toNat : Int) != ((b[k]'hlt2).toNat : Int)) = false := by simp [he]
          have HE := Lib.hid he; clear he
          go_wp2_with fail
          go_big_quiet (fail)
          go_wp2
          go_roundw
          case rel => exact ⟨k + 1, by omega, by omega, by go_num, Lib.hid (quiet_step HB.out _), Lib.hid (by rw [← HT.out, HA.out, HC.out, HE.out, ord_at])⟩
          case measure => simp [intOf]; omega
        · have he1 : (((a[k]'hlt).toNat : Int) != ((b[k]'hlt2).toNat : Int)) = true := by simp [he]
          have HE := Lib.hid he; clear he
          have HQ := Lib.hid q; clear q
          by_cases hd : (a[k]'hlt).toNat < (b[k]'hlt2).toNat
          · have hd1 : decide ((a[k]'hlt).toNat < (b[k]'hlt2).toNat) = true := decide_eq_true hd
            have HD := Lib.hid (show ord (((a[k]'hlt).toNat : Int) :: (bytesOf a).drop (k + 1)) (((b[k]'hlt2).toNat : Int) :: (bytesOf b).drop (k + 1)) = -1 from ord_lt _ _ _ _ (by omega)); clear hd
            go_wp2_with fail
            go_big_quiet (fail)
            go_wp2_with fail
            go_big_quiet ((go_at_call 73; exact quiet_joined (HQ.out _)))
            go_wp2
            go_ret
            exact ⟨ret_int (by rw [← HT.out, HA.out, HC.out, HD.out]), by first | exact quiet_step HB.out _ | exact quiet_step (quiet_step HB.out _) _⟩
          · have hd1 : decide ((a[k]'hlt).toNat < (b[k]'hlt2).toNat) = false := decide_eq_false hd
            have HD := Lib.hid (show ord (((a[k]'hlt).toNat : Int) :: (bytesOf a).drop (k + 1)) (((b[k]'hlt2).toNat : Int) :: (bytesOf b).drop (k + 1)) = 1 from ord_gt _ _ _ _ (by have := HE.out; omega)); clear hd
            go_wp2_with fail
            go_big_quiet (fail)
            go_wp2_with fail
            go_big_quiet ((go_at_call 73; exact quiet_joined (HQ.out _)))
            go_wp2
            go_ret
            exact ⟨ret_int (by rw [← HT.out, HA.out, HC.out, HD.out]), by first | exact quiet_step HB.out _ | exact quiet_step (quiet_step HB.out _) _⟩
      · have hlt3 : ¬ (k : Int) < (b.size : Int) := by omega
        have hne : ¬ ((a.size : Int) = (b.size : Int)) := by omega
        have hnl : ¬ ((a.size : Int) < (b.size : Int)) := by omega
        have HA := Lib.hid (bytesOf_dropc a k hlt)
        have HC := Lib.hid (show (bytesOf b).drop k = [] from List.drop_eq_nil_of_le (by rw [bytesOf_length]; omega))
        go_wp2_with (go_at_call 73; refine (ref02_sign_calls _ _).mono ?_; rintro e w' ⟨rfl, rfl⟩)
        go_ret
        exact ⟨ret_int (by rw [← HT.out, HA.out, HC.out, ord]; first | done | rfl | simp), HB.out⟩
    · have hlt1 : ¬ (k : Int) < (a.size : Int) := by omega
      have HA := Lib.hid (show (bytesOf a).drop k = [] from List.drop_eq_nil_of_le (by rw [bytesOf_length]; omega))
      by_cases hlt2 : k < b.size
      · have hne : ¬ ((a.size : Int) = (b.size : Int)) := by omega
        have hnl : ((a.size : Int) < (b.size : Int)) := by omega
        have HC := Lib.hid (bytesOf_dropc b k hlt2)
        go_wp2_with (go_at_call 73; refine (ref02_sign_calls _ _).mono ?_; rintro e w' ⟨rfl, rfl⟩)
        go_ret
        exact ⟨ret_int (by rw [← HT.out, HA.out, HC.out, ord]; first | done | rfl | simp), HB.out⟩
      · have hne : ((a.size : Int) = (b.size : Int)) := by omega
        have HC := Lib.hid (show (bytesOf b).drop k = [] from List.drop_eq_nil_of_le (by rw [bytesOf_length]; omega))
        go_wp2
        go_ret
        exact ⟨ret_int (by rw [← HT.out, HA.out, HC.out, ord]), HB.out⟩
end Go.Proofs.Ytonbnlfijmapfaa
/- web.EdgeKey, ChunkKey, RootKey, LeafKey, number, EntryID; cobwebref21.Number. -/
namespace Go.Proofs.Ytonbnlfijmapfaa
open Go.RowKit Go.Shelf Go.Proofs.YtonbnlfijmapfaaW.PrintWords
set_option linter.unusedVariables false
set_option linter.unusedSimpArgs false

set_option maxHeartbeats 1000000 in
theorem web_EdgeKey_calls (a : Int) (w : World) :
    Calls Try.prog 28 #[.int .i64 a] w fun e w' => e = .returned (.agg #[.int .i64 2, .int .i64 a, .int .i64 0, .string ⟨#[]⟩]) ∧ Below w.heap.size w w' := by
  go_enter Try.func28, Try.ntmps28
  go_wp2
  refine bodyPost_ret (results_cell_row rfl _ _ w.heap.size 55 _ (0, 0) _ rfl (heap_alloc_new _ _) Try.underlying55 rfl (by kernel_rfl)) rfl ?_
  exact ⟨rfl, below_al _ _⟩
set_option maxHeartbeats 1000000 in
theorem web_ChunkKey_calls (a b : Int) (from_ : Bool) (w : World) :
    Calls Try.prog 29 #[.int .i64 a, .bool from_, .int .i64 b] w fun e w' => e = .returned (.agg #[.int .i64 (if from_ = true then 3 else 4), .int .i64 a, .int .i64 b, .string ⟨#[]⟩]) ∧ Below w.heap.size w w' := by
  cases from_
  all_goals
    go_enter Try.func29, Try.ntmps29
    go_wp2
    refine bodyPost_ret (results_cell_row rfl _ _ w.heap.size 55 _ (0, 0) _ rfl (heap_alloc_new _ _) Try.underlying55 rfl (by kernel_rfl)) rfl ?_
    exact ⟨rfl, below_al _ _⟩
set_option maxHeartbeats 1000000 in
theorem web_RootKey_calls (s : ByteArray) (w : World) :
    Calls Try.prog 30 #[.string s] w fun e w' => e = .returned (.agg #[.int .i64 5, .int .i64 0, .int .i64 0, .string s]) ∧ Below w.heap.size w w' := by
  go_enter Try.func30, Try.ntmps30
  go_wp2
  refine bodyPost_ret (results_cell_row rfl _ _ w.heap.size 55 _ (0, 0) _ rfl (heap_alloc_new _ _) Try.underlying55 rfl (by kernel_rfl)) rfl ?_
  exact ⟨rfl, below_al _ _⟩
set_option maxHeartbeats 1000000 in
theorem web_LeafKey_calls (s : ByteArray) (b : Int) (w : World) :
    Calls Try.prog 31 #[.string s, .int .i64 b] w fun e w' => e = .returned (.agg #[.int .i64 6, .int .i64 0, .int .i64 b, .string s]) ∧ Below w.heap.size w w' := by
  go_enter Try.func31, Try.ntmps31
  go_wp2
  refine bodyPost_ret (results_cell_row rfl _ _ w.heap.size 55 _ (0, 0) _ rfl (heap_alloc_new _ _) Try.underlying55 rfl (by kernel_rfl)) rfl ?_
  exact ⟨rfl, below_al _ _⟩

/-- The number of the first five letters. -/
def firstFive (s : ByteArray) : Int := numOf ((bytesOf s).take 5)
/-- .. as far as k letters tell it. -/
theorem numOf_snoc (l : List Int) (x : Int) : numOf (l ++ [x]) = numOf l * 256 + x := by
  induction l with
  | nil => simp [numOf]
  | cons y l ih =>
    rw [List.cons_append, numOf, ih, numOf, List.length_append, List.length_cons, List.length_nil, Int.pow_succ, Int.add_mul, Int.mul_assoc]
    omega
theorem numOf_take (s : ByteArray) (k : Nat) (h : k < s.size) : numOf ((bytesOf s).take (k + 1)) = numOf ((bytesOf s).take k) * 256 + ((s[k]'h).toNat : Int) := by
  rw [bytesOf_drop s k h, numOf_snoc]
theorem bytesOf_small (s : ByteArray) : ∀ x ∈ bytesOf s, 0 ≤ x ∧ x < 256 := by
  intro x hx
  simp only [bytesOf, List.mem_map] at hx
  obtain ⟨b, _, rfl⟩ := hx
  have := b.toNat_lt
  omega
theorem numOf_lt5 (s : ByteArray) (k : Nat) (h : k < 5) : 0 ≤ numOf ((bytesOf s).take k) ∧ numOf ((bytesOf s).take k) < 4294967296 := by
  have h1 := numOf_lt ((bytesOf s).take k) (fun x hx => bytesOf_small s x (List.mem_of_mem_take hx))
  have h2 : ((bytesOf s).take k).length ≤ 4 := Nat.le_trans (List.length_take_le _ _) (by omega)
  have h3 : (256 : Int) ^ ((bytesOf s).take k).length ≤ 256 ^ 4 := by
    have : ((bytesOf s).take k).length = 0 ∨ ((bytesOf s).take k).length = 1 ∨ ((bytesOf s).take k).length = 2 ∨ ((bytesOf s).take k).length = 3 ∨ ((bytesOf s).take k).length = 4 := by omega
    rcases this with h | h | h | h | h <;> rw [h] <;> decide
  omega

set_option maxHeartbeats 2000000 in
theorem ref21_Number_calls (s : ByteArray) (w : World) (hs : 5 ≤ s.size) (hs2 : s.size ≤ 140737488355328) :
    Calls Try.prog 35 #[.string s] w fun e w' => e = .returned (.int .i64 (firstFive s)) ∧ w = w' := by
  go_enter Try.func35, Try.ntmps35
  go_wp2
  go_loopw [3, 4] (fun v3 v4 wr => ∃ (k : Nat) (u : Int), k ≤ 5 ∧ v4 = .int .i64 (k : Int) ∧ v3 = .int .i64 u ∧ Hid (u = numOf ((bytesOf s).take k)) ∧ wr = w) (fun _ v4 _ => (5 - intOf v4).toNat)
  case atStart => exact ⟨0, 0, by omega, rfl, rfl, Lib.hid (by simp [numOf]), rfl⟩
  case round =>
    obtain ⟨k, u, hk, rfl, rfl, HU, rfl⟩ := hrel
    by_cases hlt : k < 5
    · have hlt1 : (k : Int) < 5 := by omega
      have hlt2 : k < s.size := by omega
      have hlt3 : (k : Int) < (s.size : Int) := by omega
      have HT := Lib.hid (numOf_take s k hlt2)
      have hb := numOf_lt5 s k hlt
      rw [← HU.out] at hb
      obtain ⟨hb0, hb1⟩ := hb
      have hc := (s[k]'hlt2).toNat_lt
      go_wp2
      go_roundw
      case rel => exact ⟨k + 1, _, by omega, by go_num, rfl, Lib.hid (by rw [HT.out, ← HU.out]), by trivial⟩
      case measure => simp [intOf]; omega
    · have hlt1 : ¬ (k : Int) < 5 := by omega
      obtain rfl : k = 5 := by omega
      go_wp2
      go_ret
      exact ⟨ret_int HU.out, rfl⟩
end Go.Proofs.Ytonbnlfijmapfaa
/- web.number, EntryID. -/
namespace Go.Proofs.Ytonbnlfijmapfaa
open Go.RowKit Go.Shelf Go.Proofs.YtonbnlfijmapfaaW.PrintWords
set_option linter.unusedVariables false
set_option linter.unusedSimpArgs false

/-- '[]byte(s)', behind one name. -/
theorem bytes_conv (w : World) (s : ByteArray) (hs : s.size ≤ 140737488355328) :
    ∃ A cap W', (convert 9 46 (.string s)).run Try.prog w = .ok (.slice A s.size cap) W' ∧ (Kd.int .u8).C W' A s.size (bytesOf s) ∧ Below w.heap.size w W' := by
  have h := run_bytes_of_string (P := Try.prog) w 9 46 5 s Try.underlying9 Try.underlying46 Try.underlying5
  refine ⟨_, _, _, h, ?_, (below_drew (Below.refl w.heap.size w)).alloc (Nat.le_refl _) _⟩
  refine Kd.C_of_reads (d := (0 : Int)) ⟨bytesOf_length s, by omega, fun hn => ⟨_, rfl, fun j hj => ?_⟩⟩
  have hj2 : j < s.data.size := hj
  rw [add_plain, show (w.drew.alloc _).cell? ⟨w.heap.size, j, none⟩ = _ from cell_of_row _ _ _ _ _ _ (heap_alloc_new w.drew _), bytesRow, Array.getElem?_append_left (by simpa using hj2)]
  simp [bytesOf, List.getD_eq_getElem?_getD, Array.getElem?_eq_getElem hj2]

theorem i64_or_add (u y : Int) (h0 : 0 ≤ u) (h1 : u < 4294967296) (y0 : 0 ≤ y) (y1 : y < 256) : bits .or .i64 (u * 256) y = u * 256 + y := by
  obtain ⟨a, rfl⟩ := Int.eq_ofNat_of_zero_le h0
  obtain ⟨b, rfl⟩ := Int.eq_ofNat_of_zero_le y0
  have e : ((a : Int) * 256) = ((a * 256 : Nat) : Int) := by simp
  show IntKind.i64.wrap ((BitVec.ofInt 64 ((a : Int) * 256) ||| BitVec.ofInt 64 (b : Int)).toNat : Int) = _
  rw [e, BitVec.toNat_or, ofInt_u64 (a * 256) (by omega), ofInt_u64 b (by omega), nat_join 8 _ _ (by omega) (by omega)]
  simp [IntKind.wrap, IntKind.bits, IntKind.signed]
  omega
theorem bytesOf_five (s : ByteArray) (k : Nat) (hk : k < 5) (h : k < s.size) : rd (bytesOf (s.extract 0 5)) (k : Int) = ((s[k]'h).toNat : Int) := by
  have e : bytesOf (s.extract 0 5) = (bytesOf s).take 5 := by simp [bytesOf, ByteArray.data_extract, Array.toList_extract, List.extract_eq_take_drop]
  have hl : k < (bytesOf s).length := by rw [bytesOf_length]; exact h
  simp only [rd, e, List.getD_eq_getElem?_getD, Int.toNat_natCast]
  rw [List.getElem?_take_of_lt hk, List.getElem?_eq_getElem hl]
  simp [bytesOf]
  rfl
set_option maxRecDepth 100000 in
set_option maxHeartbeats 2000000 in
theorem web_number_calls (s : ByteArray) (w : World) (hs : 5 ≤ s.size) (hs2 : s.size ≤ 1000000) :
    Calls Try.prog 74 #[.string s] w fun e w' => e = .returned (.int .i64 (firstFive s)) ∧ Below w.heap.size w w' := by
  obtain ⟨A1, c1, w1, e1, r1, b1⟩ := bytes_conv w (s.extract 0 5) (by simp [ByteArray.size_extract]; omega)
  go_enter Try.func74, Try.ntmps74
  have HC := Lib.hid r1
  have HB := Lib.hid b1
  clear r1 b1
  go_wp2_with fail
  have hr5 : (Kd.int .u8).C w1 A1 5 (bytesOf (s.extract 0 5)) := by
    have e : (s.extract 0 5).size = 5 := by simp [ByteArray.size_extract]; omega
    have := HC.out
    rwa [e] at this
  have HR := Lib.hid hr5
  clear hr5
  go_loopw [3, 10] (fun v3 v10 wr => ∃ (k : Nat) (u : Int), k ≤ 5 ∧ v10 = .int .i64 (k : Int) ∧ v3 = .int .i64 u ∧ Hid (u = numOf ((bytesOf s).take k)) ∧ wr = w1) (fun _ v10 _ => (5 - intOf v10).toNat)
  case atStart => exact ⟨0, 0, by omega, rfl, rfl, Lib.hid (by simp [numOf]), rfl⟩
  case round =>
    obtain ⟨k, u, hk, rfl, rfl, HU, rfl⟩ := hrel
    by_cases hlt : k < 5
    · have hlt1 : (k : Int) < 5 := by omega
      have hlt2 : k < s.size := by omega
      have HT := Lib.hid (numOf_take s k hlt2)
      have hb := numOf_lt5 s k hlt
      rw [← HU.out] at hb
      obtain ⟨hb0, hb1⟩ := hb
      have hc : 0 ≤ ((s[k]'hlt2).toNat : Int) ∧ ((s[k]'hlt2).toNat : Int) < 256 := by have := (s[k]'hlt2).toNat_lt; omega
      obtain ⟨hc0, hc1⟩ := hc
      obtain ⟨ad, rfl, g0⟩ := Kd.at_int HR.out (k : Int) (by omega) (by omega)
      simp only [Int.toNat_natCast] at g0
      rw [bytesOf_five s k hlt hlt2] at g0
      have HO := Lib.hid (i64_or_add u ((s[k]'hlt2).toNat : Int) hb0 hb1 (by omega) (by omega))
      generalize ((s[k]'hlt2).toNat : Int) = y at *
      go_wp2
      go_roundw
      case rel => exact ⟨k + 1, _, by omega, by go_num, rfl, Lib.hid (by rw [HT.out, ← HU.out]; exact HO.out), by trivial⟩
      case measure => simp [intOf]; omega
    · have hlt1 : ¬ (k : Int) < 5 := by omega
      obtain rfl : k = 5 := by omega
      go_wp2
      go_ret
      exact ⟨ret_int HU.out, HB.out⟩

/-- An entry's number. -/
def entryNum (s : ByteArray) : Int := if s.size < 5 then -1 else firstFive (s.extract (s.size - 5) s.size)
set_option maxRecDepth 100000 in
set_option maxHeartbeats 2000000 in
theorem web_EntryID_calls (s : ByteArray) (w : World) (hs2 : s.size ≤ 1000000) :
    Calls Try.prog 32 #[.string s] w fun e w' => e = .returned (.int .i64 (entryNum s)) ∧ Below w.heap.size w w' := by
  by_cases h : s.size < 5
  · have h1 : (s.size : Int) < 5 := by omega
    go_enter Try.func32, Try.ntmps32
    go_wp2
    go_ret
    exact ⟨ret_int (by rw [entryNum, if_pos h]), Below.refl _ _⟩
  · have h1 : ¬ (s.size : Int) < 5 := by omega
    have h2 : (0 : Int) ≤ (s.size : Int) - 5 := by omega
    have h3 : ((s.size : Int) - 5).toNat = s.size - 5 := by omega
    have hz : (s.extract (s.size - 5) s.size).size = 5 := by simp [ByteArray.size_extract]; omega
    have HZ := Lib.hid hz; clear hz
    go_enter Try.func32, Try.ntmps32
    go_wp2_with (go_at_call 74; refine (web_number_calls (s.extract (s.size - 5) s.size) _ (by rw [HZ.out]; omega) (by rw [HZ.out]; omega)).mono ?_; rintro e w1 ⟨rfl, hb1⟩)
    go_ret
    exact ⟨ret_int (by rw [entryNum, if_neg h]), hb1⟩
end Go.Proofs.Ytonbnlfijmapfaa
/- cobwebref02.Bytes, Compare. -/
namespace Go.Proofs.Ytonbnlfijmapfaa
open Go.RowKit Go.Shelf Go.Proofs.YtonbnlfijmapfaaW.PrintWords
set_option linter.unusedVariables false
set_option linter.unusedSimpArgs false

/-- A slice of bytes, of the call's own. -/
def RetRow (w : World) (l : List Int) (e : Ending) (w' : World) : Prop := ∃ v, e = .returned v ∧ (Kd.int .u8).R 5 w' w.heap.size (fun _ => True) v l ∧ Below w.heap.size w w'

def tailBytes (u : Int) (j : Nat) : List Int := ((List.range 8).map (u8z u)).drop (8 - j)
theorem tailBytes_step (u : Int) (j : Nat) (h : j < 8) : tailBytes u (j + 1) = (u / 256 ^ j % 256) :: tailBytes u j := by
  have : j = 0 ∨ j = 1 ∨ j = 2 ∨ j = 3 ∨ j = 4 ∨ j = 5 ∨ j = 6 ∨ j = 7 := by omega
  rcases this with rfl | rfl | rfl | rfl | rfl | rfl | rfl | rfl <;> rfl
theorem tailBytes_all (u : Int) : 1 :: tailBytes u 8 = 1 :: (List.range 8).map (u8z u) := rfl
theorem tailBytes_length (u : Int) (j : Nat) : (tailBytes u j).length ≤ 8 := by simp [tailBytes]
theorem div_step (u : Int) (j : Nat) : u / 256 ^ j / 256 = u / 256 ^ (j + 1) := by
  rw [Int.pow_succ, Int.ediv_ediv_of_nonneg (Int.pow_nonneg (by decide))]
theorem div_range (u : Int) (j : Nat) (h0 : 0 ≤ u) (h1 : u < 18446744073709551616) : 0 ≤ u / 256 ^ j ∧ u / 256 ^ j < 18446744073709551616 := by
  have hp : (0 : Int) < 256 ^ j := Int.pow_pos (by decide)
  refine ⟨Int.ediv_nonneg h0 (by omega), Int.lt_of_le_of_lt (Int.ediv_le_self _ h0) h1⟩

set_option maxHeartbeats 2000000 in
set_option maxRecDepth 100000 in
theorem ref02_Bytes_int (n : Int) (s : ByteArray) (w : World) (h0 : -9223372036854775808 ≤ n) (h1 : n ≤ 9223372036854775807) :
    Calls Try.prog 23 #[.agg #[.int .i64 1, .int .i64 n, .string s]] w (RetRow w (intBytes n)) := by
  have HU0 := Lib.hid (div_range (n + 9223372036854775808) 0 (by omega) (by omega))
  go_enter Try.func23, Try.ntmps23
  go_wp2_with fail
  have HB0 := Lib.hid (below_al w (.cells #[.int .i64 1, .int .i64 n, .string s] 42))
  go_loopw [3, 4, 5] (fun v3 v4 v5 wr => ∃ (j : Nat) (q : Int), j ≤ 8 ∧ v5 = .int .i64 (j : Int) ∧ v3 = .int .u64 q ∧ (0 ≤ q ∧ q < 18446744073709551616) ∧ Hid (q = (n + 9223372036854775808) / 256 ^ j) ∧ Hid (Below w.heap.size w wr) ∧ Hid ((Kd.int .u8).R 5 wr w.heap.size (fun _ => True) v4 (tailBytes (n + 9223372036854775808) j))) (fun _ _ v5 _ => (8 - intOf v5).toNat)
  case atStart =>
    refine ⟨0, n + 9223372036854775808, by omega, rfl, ?_, by omega, Lib.hid (by simp), HB0, Lib.hid (Kd.R_nil _ _ _ _ _)⟩
    congr 1
    simp [IntKind.wrap, IntKind.bits, IntKind.signed]
    omega
  case round =>
    obtain ⟨j, q, hj, rfl, rfl, ⟨hq0, hq1⟩, HQ, HB, HR⟩ := hrel
    by_cases hlt : j < 8
    · have e1 : (j : Int) < 8 := by omega
      have HT := Lib.hid (tailBytes_step (n + 9223372036854775808) j hlt)
      have hl8 := tailBytes_length (n + 9223372036854775808) j
      obtain ⟨A4, c4, rfl, hle4, hC4⟩ := Kd.R_reads HR.out
      obtain ⟨v2, w2, hr2, hR2, hb2, -, -⟩ := run_app_row (ty := 46) (R_box1 (W := wr) (T := 5) (q % 256) .u8 HB.out.size) (Kd.C_below hC4 (below_al wr (.cells #[.int .u8 (q % 256)] 5))) Try.underlying46 info_u8 rfl (by decide) (fun _ _ => trivial) (by have := HB.out.size; simp; omega) (by simp; omega)
      have HR2 := Lib.hid hR2
      have HB2 := Lib.hid ((keepB0 (below_al _ _) HB.out).trans hb2)
      clear hR2 hb2
      go_wp2_with (at_builtin; refine list_app rfl rfl rfl rfl hr2 ?_)
      go_roundw
      case rel =>
        refine ⟨j + 1, q / 256, by omega, by go_num, ?_, by omega, Lib.hid ?_, HB2, Lib.hid ?_⟩
        · congr 1 <;> (try omega)
        · rw [HQ.out]; exact div_step _ _
        · rw [HT.out, ← HQ.out]; exact HR2.out
      case measure => simp [intOf]; omega
    · have e1 : ¬ (j : Int) < 8 := by omega
      obtain rfl : j = 8 := by omega
      obtain ⟨A4, c4, rfl, hle4, hC4⟩ := Kd.R_reads HR.out
      obtain ⟨v2, w2, hr2, hR2, hb2, -, -⟩ := run_app_row (ty := 46) (R_box1 (W := wr) (T := 5) 1 .u8 HB.out.size) (Kd.C_below hC4 (below_al wr (.cells #[.int .u8 1] 5))) Try.underlying46 info_u8 rfl (by decide) (fun _ _ => trivial) (by have := HB.out.size; simp; omega) (by simp [tailBytes])
      have HR2 := Lib.hid hR2
      have HB2 := Lib.hid ((keepB0 (below_al _ _) HB.out).trans hb2)
      clear hR2 hb2
      go_wp2_with (at_builtin; refine list_app rfl rfl rfl rfl hr2 ?_)
      go_ret
      exact ⟨_, rfl, HR2.out, HB2.out⟩

set_option maxHeartbeats 4000000 in
set_option maxRecDepth 100000 in
theorem ref02_Bytes_text (n : Int) (s : ByteArray) (w : World) (hs : (s.size : Int) ≤ 200) :
    Calls Try.prog 23 #[.agg #[.int .i64 2, .int .i64 n, .string s]] w (RetRow w (2 :: (esc (bytesOf s) ++ [0, 0]))) := by
  go_enter Try.func23, Try.ntmps23
  go_wp2_with fail
  have HB0 := Lib.hid (below_al w (.cells #[.int .i64 2, .int .i64 n, .string s] 42))
  have HK0 := Lib.hid (blk_new w #[.int .i64 2, .int .i64 n, .string s] 42)
  go_loopw [6, 7] (fun v6 v7 wr => ∃ (k : Nat), k ≤ s.size ∧ v7 = .int .i64 k ∧ Hid (Below w.heap.size w wr) ∧ Hid (Blk wr w.heap.size #[.int .i64 2, .int .i64 n, .string s] 42) ∧ Hid ((Kd.int .u8).R 5 wr w.heap.size (fun _ => True) v6 (2 :: esc ((bytesOf s).take k)))) (fun _ v7 _ => s.size - (intOf v7).toNat)
  case atStart => exact ⟨0, by omega, rfl, Lib.hid (keepB0 (below_al _ _) HB0.out), Lib.hid (blk_alloc HK0.out _), Lib.hid (R_box1g (by simp) 2 .u8 HB0.out.size)⟩
  case round =>
    obtain ⟨k, hk, rfl, HB, HK, HR⟩ := hrel
    have hc2 : wr.cell? ⟨w.heap.size, 2, none⟩ = some (.string s) := blk_cell HK.out 2
    by_cases hlt : k < s.size
    · have hlt2 : (k : Int) < (s.size : Int) := by omega
      have HT := Lib.hid (bytesOf_drop s k hlt)
      have hl1 := esc_length ((bytesOf s).take k)
      have hl2 := List.length_take_le k (bytesOf s)
      by_cases hz : ((s[k]'hlt).toNat : Int) = 0
      · have HE := Lib.hid (esc_zero _ hz)
        obtain ⟨v2, w2, hr2, hR2, hb2, hg2, -⟩ := run_app_row (ty := 46) (A := some ⟨wr.heap.size, 0, none⟩) (m := 2) (c := 2) (Kd.R_alloc HR.out (.cells (encs (Value.int .u8) [0, 255]).toArray 5)) (C_boxes (W := wr) (T := 5) [0, 255] .u8 (by simp)) Try.underlying46 info_u8 rfl (by decide) (fun _ _ => trivial) (by have := HB.out.size; simp; omega) (by simp; omega)
        have HK2 := Lib.hid (blk_grown (blk_alloc HK.out (.cells (encs (Value.int .u8) [0, 255]).toArray 5)) (Kd.R_alloc HR.out (.cells (encs (Value.int .u8) [0, 255]).toArray 5)) hg2 (by decide))
        have HR2 := Lib.hid hR2
        have HB2 := Lib.hid ((keepB0 (below_al _ _) HB.out).trans hb2)
        clear hR2 hb2 hg2 HR
        go_wp2_with (at_builtin; refine list_app rfl rfl rfl rfl hr2 ?_)
        go_roundw
        case rel =>
          refine ⟨k + 1, by omega, by go_num, HB2, HK2, Lib.hid ?_⟩
          rw [HT.out, esc_append, HE.out]
          exact HR2.out
        case measure => simp [intOf]; omega
      · have HE := Lib.hid (esc_one _ hz)
        go_wp2_with (at_builtin; (refine app_one HR.out info_u8 Try.underlying46 (M_int _) (fun _ _ => trivial) HB.out.size ?aL rfl (by decide) (by decide) rfl rfl rfl rfl ?_); (case aL => simp; omega); intro v2 w2 hR2 hb2 hg2 hat2; have HK2 := Lib.hid (blk_grown HK.out HR.out hg2 (by decide)); have HR2 := Lib.hid hR2; have HB2 := Lib.hid (HB.out.trans hb2); clear hR2 hg2 HR)
        go_roundw
        case rel =>
          refine ⟨k + 1, by omega, by go_num, HB2, HK2, Lib.hid ?_⟩
          rw [HT.out, esc_append, HE.out]
          have := HR2.out
          simpa using this
        case measure => simp [intOf]; omega
    · have hlt2 : ¬ (k : Int) < (s.size : Int) := by omega
      have HF := HR.out
      rw [List.take_of_length_le (by rw [bytesOf_length]; omega)] at HF
      obtain ⟨v2, w2, hr2, hR2, hb2, -, -⟩ := run_app_row (ty := 46) (A := some ⟨wr.heap.size, 0, none⟩) (m := 2) (c := 2) (Kd.R_alloc HF (.cells (encs (Value.int .u8) [0, 0]).toArray 5)) (C_boxes (W := wr) (T := 5) [0, 0] .u8 (by simp)) Try.underlying46 info_u8 rfl (by decide) (fun _ _ => trivial) (by have := HB.out.size; simp; omega) (by have := esc_length (bytesOf s); rw [bytesOf_length] at this; simp; omega)
      have HR2 := Lib.hid hR2
      have HB2 := Lib.hid ((keepB0 (below_al _ _) HB.out).trans hb2)
      clear hR2 hb2 HF
      go_wp2_with (at_builtin; refine list_app rfl rfl rfl rfl hr2 ?_)
      go_ret
      exact ⟨_, rfl, HR2.out, HB2.out⟩

theorem valOk_parts {k n : Int} {s : ByteArray} (h : valOk k n s = true) : (k = 1 ∧ s.toList.isEmpty = true) ∨ (k = 2 ∧ n = 0 ∧ (s.size : Int) ≤ 200) := by
  simp only [valOk, Bool.or_eq_true, Bool.and_eq_true, beq_iff_eq, decide_eq_true_eq] at h
  rcases h with h | ⟨⟨h1, h2⟩, h3⟩
  · exact .inl h
  · exact .inr ⟨h1, h2, h3⟩
theorem ref02_Bytes_calls (k n : Int) (s : ByteArray) (w : World) (h0 : -9223372036854775808 ≤ n) (h1 : n ≤ 9223372036854775807) (h : valOk k n s = true) :
    Calls Try.prog 23 #[.agg #[.int .i64 k, .int .i64 n, .string s]] w (RetRow w (valBytes k n s)) := by
  rcases valOk_parts h with ⟨rfl, _⟩ | ⟨rfl, _, h2⟩
  · exact ref02_Bytes_int n s w h0 h1
  · exact ref02_Bytes_text n s w h2

/-- How a value stands to another. -/
def cmpV (k1 n1 : Int) (s1 : ByteArray) (k2 n2 : Int) (s2 : ByteArray) : Int :=
  if k1 = k2 then (if n1 = n2 then ord (bytesOf s1) (bytesOf s2) else if n1 < n2 then -1 else 1) else if k1 < k2 then -1 else 1

set_option maxHeartbeats 4000000 in
theorem ref02_Compare_calls (k1 n1 k2 n2 : Int) (s1 s2 : ByteArray) (w : World) (h1 : s1.size ≤ 140737488355328) (h2 : s2.size ≤ 140737488355328) :
    Calls Try.prog 24 #[.agg #[.int .i64 k1, .int .i64 n1, .string s1], .agg #[.int .i64 k2, .int .i64 n2, .string s2]] w fun e w' => e = .returned (.int .i64 (cmpV k1 n1 s1 k2 n2 s2)) ∧ Below w.heap.size w w' := by
  have HB0 := Lib.hid (keepB0 (below_al _ (.cells #[.int .i64 k2, .int .i64 n2, .string s2] 42)) (below_al w (.cells #[.int .i64 k1, .int .i64 n1, .string s1] 42)))
  by_cases hk : k1 = k2
  · subst hk
    by_cases hn : n1 = n2
    · subst hn
      go_enter Try.func24, Try.ntmps24
      go_wp2_with (go_at_call 26; refine (ref02_Order_calls _ _ _ h1 h2).mono ?_; rintro e w' ⟨rfl, hq⟩)
      go_ret
      exact ⟨ret_int (by simp [cmpV]), keepB0 (quiet_below hq _) HB0.out⟩
    · rcases Int.lt_or_gt_of_ne hn with hd | hd
      · have hd1 : decide (n1 < n2) = true := decide_eq_true hd
        go_enter Try.func24, Try.ntmps24
        go_wp2_with (go_at_call 73; refine (ref02_sign_calls _ _).mono ?_; rintro e w' ⟨rfl, rfl⟩)
        all_goals
          go_ret
          exact ⟨ret_int (by simp [cmpV, hn]; omega), HB0.out⟩
      · have hd1 : decide (n1 < n2) = false := decide_eq_false (by omega)
        go_enter Try.func24, Try.ntmps24
        go_wp2_with (go_at_call 73; refine (ref02_sign_calls _ _).mono ?_; rintro e w' ⟨rfl, rfl⟩)
        all_goals
          go_ret
          exact ⟨ret_int (by simp [cmpV, hn]; omega), HB0.out⟩
  · rcases Int.lt_or_gt_of_ne hk with hd | hd
    · have hd1 : decide (k1 < k2) = true := decide_eq_true hd
      go_enter Try.func24, Try.ntmps24
      go_wp2_with (go_at_call 73; refine (ref02_sign_calls _ _).mono ?_; rintro e w' ⟨rfl, rfl⟩)
      all_goals
        go_ret
        exact ⟨ret_int (by simp [cmpV, hk]; omega), HB0.out⟩
    · have hd1 : decide (k1 < k2) = false := decide_eq_false (by omega)
      go_enter Try.func24, Try.ntmps24
      go_wp2_with (go_at_call 73; refine (ref02_sign_calls _ _).mono ?_; rintro e w' ⟨rfl, rfl⟩)
      all_goals
        go_ret
        exact ⟨ret_int (by simp [cmpV, hk]; omega), HB0.out⟩
end Go.Proofs.Ytonbnlfijmapfaa
/- cobwebref21.Five, web.Span. -/
namespace Go.Proofs.Ytonbnlfijmapfaa
open Go.RowKit Go.Shelf Go.Proofs.YtonbnlfijmapfaaW.PrintWords
set_option linter.unusedVariables false
set_option linter.unusedSimpArgs false

theorem strOfNums_cons (x : Int) (l : List Int) : strOfNums [x] ++ strOfNums l = strOfNums (x :: l) := by
  simp only [strOfNums, List.map_cons, List.map_nil]
  apply ByteArray.ext
  simp
def tailFive (n : Int) (j : Nat) : List Int := (fiveBytes n).drop (5 - j)
theorem tailFive_step (n : Int) (j : Nat) (h : j < 5) : tailFive n (j + 1) = (n / 256 ^ j % 256) :: tailFive n j := by
  have : j = 0 ∨ j = 1 ∨ j = 2 ∨ j = 3 ∨ j = 4 := by omega
  rcases this with rfl | rfl | rfl | rfl | rfl
  · simp [tailFive, fiveBytes]
  · rfl
  · rfl
  · rfl
  · rfl
set_option maxHeartbeats 2000000 in
set_option maxRecDepth 100000 in
theorem ref21_Five_calls (n : Int) (w : World) (h0 : 0 ≤ n) (h1 : n < 1099511627776) :
    Calls Try.prog 25 #[.int .i64 n] w fun e w' => e = .returned (.string (strOfNums (fiveBytes n))) ∧ Below w.heap.size w w' := by
  have q := str_box1
  have HN := Lib.hid (And.intro h0 h1)
  go_enter Try.func25, Try.ntmps25
  go_wp2
  go_loopw [0, 3, 4] (fun v0 v3 v4 wr => ∃ (j : Nat) (u : Int), j ≤ 5 ∧ v4 = .int .i64 (j : Int) ∧ v0 = .int .i64 u ∧ (0 ≤ u ∧ u < 1099511627776) ∧ Hid (u = n / 256 ^ j) ∧ v3 = .string (strOfNums (tailFive n j)) ∧ Hid (Below w.heap.size w wr)) (fun _ _ v4 _ => (5 - intOf v4).toNat)
  case atStart => exact ⟨0, n, by omega, rfl, rfl, ⟨h0, h1⟩, Lib.hid (by simp), rfl, Lib.hid (Below.refl _ _)⟩
  case round =>
    obtain ⟨j, u, hj, rfl, rfl, ⟨hu0, hu1⟩, HU, rfl, HB⟩ := hrel
    by_cases hlt : j < 5
    · have e1 : (j : Int) < 5 := by omega
      have HT := Lib.hid (tailFive_step n j hlt)
      have hz : ByteArray.size (strOfNums (tailFive n j)) ≤ 5 := by rw [strOfNums_size]; simp [tailFive, fiveBytes]
      have hz1 := strOfNums_size [u % 256]
      go_wp2
      go_roundw
      case rel =>
        refine ⟨j + 1, u / 256, by omega, by go_num, rfl, by omega, Lib.hid (by rw [HU.out]; exact div_step _ _), ?_, Lib.hid (keepB0 (below_al _ _) HB.out)⟩
        rw [HT.out, ← HU.out]; exact congrArg Value.string (strOfNums_cons _ _)
      case measure => simp [intOf]; omega
    · have e1 : ¬ (j : Int) < 5 := by omega
      obtain rfl : j = 5 := by omega
      go_wp2
      go_ret
      exact ⟨rfl, HB.out⟩

/-- What lies behind a span's upper end. -/
def topTail : ByteArray := ⟨#[255, 255, 255, 255, 255, 0]⟩
set_option maxHeartbeats 2000000 in
set_option maxRecDepth 100000 in
theorem web_Span_no (k1 n1 k2 n2 : Int) (s1 s2 : ByteArray) (w : World) (h1 : -9223372036854775808 ≤ n1 ∧ n1 ≤ 9223372036854775807) (h2 : -9223372036854775808 ≤ n2 ∧ n2 ≤ 9223372036854775807) (hn : valOk k1 n1 s1 = false ∨ valOk k1 n1 s1 = true ∧ valOk k2 n2 s2 = false) :
    Calls Try.prog 21 #[.agg #[.int .i64 k1, .int .i64 n1, .string s1], .agg #[.int .i64 k2, .int .i64 n2, .string s2]] w fun e w' => e = .returned (.tuple #[.string ⟨#[]⟩, .string ⟨#[]⟩, .int .i64 22]) ∧ Below w.heap.size w w' := by
  have HB0 := Lib.hid (keepB0 (below_al _ (.cells #[.int .i64 k2, .int .i64 n2, .string s2] 42)) (below_al w (.cells #[.int .i64 k1, .int .i64 n1, .string s1] 42)))
  have HK0 := Lib.hid (blk_new (w.alloc (.cells #[.int .i64 k1, .int .i64 n1, .string s1] 42)) #[.int .i64 k2, .int .i64 n2, .string s2] 42)
  have H1 := Lib.hid h1; clear h1
  have H2 := Lib.hid h2; clear h2
  have p1 : True := trivial
  rcases hn with hn | ⟨hn, hn2⟩
  · cases hv : valOk k2 n2 s2 with
    | false =>
      go_enter Try.func21, Try.ntmps21
      go_wp2_with (first
        | (go_at_call 72; clear p1; refine (value_Bytes_no k1 n1 s1 _ hn).mono ?_; rintro e w1 ⟨rfl, hb1⟩; have HB1 := Lib.hid (keepB0 hb1 HB0.out); have K1 : w1.cell? ⟨w.heap.size + 1, 0, none⟩ = some (.int .i64 k2) ∧ w1.cell? ⟨w.heap.size + 1, 1, none⟩ = some (.int .i64 n2) ∧ w1.cell? ⟨w.heap.size + 1, 2, none⟩ = some (.string s2) := (fun K => by simp only [World.size_alloc] at K; exact ⟨blk_cell K 0, blk_cell K 1, blk_cell K 2⟩) (blk_below hb1 HK0.out); clear hb1; obtain ⟨K1, K2, K3⟩ := K1)
        | (go_at_call 72; refine (value_Bytes_no k2 n2 s2 _ hv).mono ?_; rintro e w2 ⟨rfl, hb2⟩; have HB2 := Lib.hid (keepB0 hb2 HB1.out); clear hb2))
      refine bodyPost_ret (v := .tuple #[.string ⟨#[]⟩, .string ⟨#[]⟩, .int .i64 22]) (by simp [results, Try.results21, go_sem]) rfl ⟨rfl, HB2.out⟩
    | true =>
      go_enter Try.func21, Try.ntmps21
      go_wp2_with (first
        | (go_at_call 72; clear p1; refine (value_Bytes_no k1 n1 s1 _ hn).mono ?_; rintro e w1 ⟨rfl, hb1⟩; have HB1 := Lib.hid (keepB0 hb1 HB0.out); have K1 : w1.cell? ⟨w.heap.size + 1, 0, none⟩ = some (.int .i64 k2) ∧ w1.cell? ⟨w.heap.size + 1, 1, none⟩ = some (.int .i64 n2) ∧ w1.cell? ⟨w.heap.size + 1, 2, none⟩ = some (.string s2) := (fun K => by simp only [World.size_alloc] at K; exact ⟨blk_cell K 0, blk_cell K 1, blk_cell K 2⟩) (blk_below hb1 HK0.out); clear hb1; obtain ⟨K1, K2, K3⟩ := K1)
        | (go_at_call 72; refine (value_Bytes_calls k2 n2 s2 _ H2.out.1 H2.out.2 hv).mono ?_; rintro e w2 ⟨v2, rfl, -, hb2⟩; have HB2 := Lib.hid (keepB0 hb2 HB1.out); clear hb2))
      refine bodyPost_ret (v := .tuple #[.string ⟨#[]⟩, .string ⟨#[]⟩, .int .i64 22]) (by simp [results, Try.results21, go_sem]) rfl ⟨rfl, HB2.out⟩
  · go_enter Try.func21, Try.ntmps21
    go_wp2_with (first
      | (go_at_call 72; clear p1; refine (value_Bytes_calls k1 n1 s1 _ H1.out.1 H1.out.2 hn).mono ?_; rintro e w1 ⟨v1, rfl, -, hb1⟩; have HB1 := Lib.hid (keepB0 hb1 HB0.out); have K1 : w1.cell? ⟨w.heap.size + 1, 0, none⟩ = some (.int .i64 k2) ∧ w1.cell? ⟨w.heap.size + 1, 1, none⟩ = some (.int .i64 n2) ∧ w1.cell? ⟨w.heap.size + 1, 2, none⟩ = some (.string s2) := (fun K => by simp only [World.size_alloc] at K; exact ⟨blk_cell K 0, blk_cell K 1, blk_cell K 2⟩) (blk_below hb1 HK0.out); clear hb1; obtain ⟨K1, K2, K3⟩ := K1)
      | (go_at_call 72; refine (value_Bytes_no k2 n2 s2 _ hn2).mono ?_; rintro e w2 ⟨rfl, hb2⟩; have HB2 := Lib.hid (keepB0 hb2 HB1.out); clear hb2))
    refine bodyPost_ret (v := .tuple #[.string ⟨#[]⟩, .string ⟨#[]⟩, .int .i64 22]) (by simp [results, Try.results21, go_sem]) rfl ⟨rfl, HB2.out⟩

set_option maxHeartbeats 2000000 in
set_option maxRecDepth 100000 in
theorem web_Span_yes (k1 n1 k2 n2 : Int) (s1 s2 : ByteArray) (w : World) (h1 : -9223372036854775808 ≤ n1 ∧ n1 ≤ 9223372036854775807) (h2 : -9223372036854775808 ≤ n2 ∧ n2 ≤ 9223372036854775807) (hn : valOk k1 n1 s1 = true) (hn2 : valOk k2 n2 s2 = true) :
    Calls Try.prog 21 #[.agg #[.int .i64 k1, .int .i64 n1, .string s1], .agg #[.int .i64 k2, .int .i64 n2, .string s2]] w fun e w' => e = .returned (.tuple #[.string (strOfNums (valBytes k1 n1 s1)), .string (strOfNums (valBytes k2 n2 s2) ++ topTail), .int .i64 0]) ∧ Below w.heap.size w w' := by
  have HB0 := Lib.hid (keepB0 (below_al _ (.cells #[.int .i64 k2, .int .i64 n2, .string s2] 42)) (below_al w (.cells #[.int .i64 k1, .int .i64 n1, .string s1] 42)))
  have HK0 := Lib.hid (blk_new (w.alloc (.cells #[.int .i64 k1, .int .i64 n1, .string s1] 42)) #[.int .i64 k2, .int .i64 n2, .string s2] 42)
  have H1 := Lib.hid h1; clear h1
  have H2 := Lib.hid h2; clear h2
  have hvl := valBytes_length (k := k2) (n := n2) (s := s2) hn2
  have hvz := strOfNums_size (valBytes k2 n2 s2)
  have p1 : True := trivial
  go_enter Try.func21, Try.ntmps21
  go_wp2_with (first
    | (go_at_call 72; clear p1; refine (value_Bytes_calls k1 n1 s1 _ H1.out.1 H1.out.2 hn).mono ?_; rintro e w1 ⟨v1, rfl, hR1, hb1⟩; have HB1 := Lib.hid (keepB0 hb1 HB0.out); have K1 : w1.cell? ⟨w.heap.size + 1, 0, none⟩ = some (.int .i64 k2) ∧ w1.cell? ⟨w.heap.size + 1, 1, none⟩ = some (.int .i64 n2) ∧ w1.cell? ⟨w.heap.size + 1, 2, none⟩ = some (.string s2) := (fun K => by simp only [World.size_alloc] at K; exact ⟨blk_cell K 0, blk_cell K 1, blk_cell K 2⟩) (blk_below hb1 HK0.out); clear hb1; have HR1 := Lib.hid hR1; clear hR1; obtain ⟨K1, K2, K3⟩ := K1)
    | (go_at_call 72; refine (value_Bytes_calls k2 n2 s2 _ H2.out.1 H2.out.2 hn2).mono ?_; rintro e w2 ⟨v2, rfl, hR2, hb2⟩; have q1 := fun n => str_R HR1.out (pw_below_drewN hb2 n); have q2 := fun n => str_R hR2 (pw_below_drewN (Below.refl _ _) n); have HB2 := Lib.hid (keepB0 hb2 HB1.out); clear hb2 hR2))
  go_big_quiet (fail)
  go_wp2
  refine bodyPost_ret (v := .tuple #[.string (strOfNums (valBytes k1 n1 s1)), .string (strOfNums (valBytes k2 n2 s2) ++ topTail), .int .i64 0]) (by simp [results, Try.results21, go_sem, topTail]) rfl ⟨rfl, pw_below_drewN HB2.out _⟩
end Go.Proofs.Ytonbnlfijmapfaa
/- value.text, Take. -/
namespace Go.Proofs.Ytonbnlfijmapfaa
open Go.RowKit Go.Shelf Go.Proofs.YtonbnlfijmapfaaW.PrintWords
set_option linter.unusedVariables false
set_option linter.unusedSimpArgs false

/-- A value, how many bytes, an error. -/
def valRet (x : SValue × Int × Int) : Ending := .returned (.tuple #[x.1.val, .int .i64 x.2.1, .int .i64 x.2.2])
set_option maxRecDepth 100000 in
set_option maxHeartbeats 4000000 in
theorem value_text_calls (A : Option Addr) (c : Nat) (b : List Int) (w : World) (h : (Kd.int .u8).C w A b.length b) :
    Calls Try.prog 148 #[.slice A b.length c] w fun e w' => e = valRet (txGo b.tail [] 1) ∧ Below w.heap.size w w' := by
  have hm := Kd.C_max h
  have HX := Lib.hid h; clear h
  go_enter Try.func148, Try.ntmps148
  go_wp2_with fail
  have HB0 := Lib.hid (below_al w (.cells #[.int .i64 0, .int .i64 0, .string ⟨#[]⟩] 42))
  have HK0 := Lib.hid (blk_new w #[.int .i64 0, .int .i64 0, .string ⟨#[]⟩] 42)
  go_loopw [5, 6] (fun v5 v6 wr => ∃ (k : Nat) (acc : List Int), 1 ≤ k ∧ (k ≤ b.length ∨ k = 1) ∧ acc.length ≤ 200 ∧ v6 = .int .i64 k ∧ Hid (Below w.heap.size w wr) ∧ Hid (Blk wr w.heap.size #[.int .i64 0, .int .i64 0, .string ⟨#[]⟩] 42) ∧ Hid ((Kd.int .u8).R 5 wr w.heap.size (fun _ => True) v5 acc) ∧ Hid (txGo (b.drop k) acc k = txGo b.tail [] 1)) (fun _ v6 _ => b.length - (intOf v6).toNat)
  case atStart => exact ⟨1, [], by omega, by omega, by simp, rfl, HB0, HK0, Lib.hid (Kd.R_nil _ _ _ _ _), Lib.hid (by simp)⟩
  case round =>
    obtain ⟨k, acc, hk1, hk, hac, rfl, HB, HK, HR, HI⟩ := hrel
    have hc0 : wr.cell? ⟨w.heap.size, 0, none⟩ = some (.int .i64 0) := blk_cell HK.out 0
    have hc1 : wr.cell? ⟨w.heap.size, 1, none⟩ = some (.int .i64 0) := blk_cell HK.out 1
    have hc2 : wr.cell? ⟨w.heap.size, 2, none⟩ = some (.string ⟨#[]⟩) := blk_cell HK.out 2
    have hf0 := blk_frozen HK.out 0
    have hf1 := blk_frozen HK.out 1
    have hf2 := blk_frozen HK.out 2
    by_cases hlt : k < b.length
    · have hlt2 : (k : Int) < (b.length : Int) := by omega
      obtain ⟨A5, c5, rfl, hle5, hC5⟩ := Kd.R_reads HR.out
      have HC5 := Lib.hid hC5; clear hC5
      have HD := Lib.hid (drop_cons b k 0 hlt)
      obtain ⟨ad, rfl, g0⟩ := Kd.at_int (Kd.C_below HX.out HB.out) (k : Int) (by omega) (by omega)
      simp only [Int.toNat_natCast, rd] at g0
      generalize b.getD k 0 = x at HD g0
      by_cases hx : x = 0
      · subst hx
        by_cases hlt3 : k + 1 < b.length
        · have hlt4 : ¬ ((k : Int) + 1 = (b.length : Int)) := by omega
          have HD2 := Lib.hid (drop_cons b (k + 1) 0 hlt3)
          obtain ⟨ad2, e2, g1⟩ := Kd.at_int (Kd.C_below HX.out HB.out) ((k : Int) + 1) (by omega) (by omega)
          cases e2
          have et : ((k : Int) + 1).toNat = k + 1 := by omega
          simp only [et, rd, add_more] at g1
          clear et
          generalize b.getD (k + 1) 0 = y at HD2 g1
          by_cases hy : y = 0
          · subst hy
            have q := str_R HR.out (Below.refl _ _)
            go_wp2
            have hK := blk_set3 HK.out (.int .i64 2) (.int .i64 0) (.string (strOfNums acc))
            have k0 := blk_cell hK 0
            have k1 := blk_cell hK 1
            have k2 := blk_cell hK 2
            simp only [List.getElem?_toArray, List.getElem?_cons_zero, List.getElem?_cons_succ] at k0 k1 k2
            refine bodyPost_ret (v := .tuple #[.agg #[.int .i64 2, .int .i64 0, .string (strOfNums acc)], .int .i64 ((k : Int) + 1 + 1), .int .i64 0]) (by simp [results, Try.results148, go_sem, k0, k1, k2]) rfl ⟨?_, by first | exact below_set3 HB.out (Nat.le_refl _) _ _ _ | exact below_al _ _⟩
            rw [← HI.out, HD.out, HD2.out, txGo_end]; simp only [valRet, SValue.val, Int.add_assoc]; rfl
          · by_cases hy2 : y = 255
            · subst hy2
              by_cases hl : acc.length = 200
              · have hl2 : (acc.length : Int) = 200 := by omega
                go_wp2
                have hK := blk_set3 HK.out (.int .i64 0) (.int .i64 0) (.string ⟨#[]⟩)
                have k0 := blk_cell hK 0
                have k1 := blk_cell hK 1
                have k2 := blk_cell hK 2
                simp only [List.getElem?_toArray, List.getElem?_cons_zero, List.getElem?_cons_succ] at k0 k1 k2
                refine bodyPost_ret (v := .tuple #[.agg #[.int .i64 0, .int .i64 0, .string ⟨#[]⟩], .int .i64 (0), .int .i64 32]) (by simp [results, Try.results148, go_sem, k0, k1, k2]) rfl ⟨?_, by first | exact below_set3 HB.out (Nat.le_refl _) _ _ _ | exact below_al _ _⟩
                rw [← HI.out, HD.out, HD2.out, txGo_zmany _ _ _ (by omega)]; rfl
              · have hl2 : ¬ (acc.length : Int) = 200 := by omega
                go_wp2_with (at_builtin; (refine app_one HR.out info_u8 Try.underlying46 (M_int _) (fun _ _ => trivial) HB.out.size ?aL rfl (by decide) (by decide) rfl rfl rfl rfl ?_); (case aL => simp; omega); intro v2 w2 hR2 hb2 hg2 hat2; have HK2 := Lib.hid (blk_grown HK.out HR.out hg2 (by decide)); have HR2 := Lib.hid hR2; have HB2 := Lib.hid (HB.out.trans hb2); clear hR2 hg2 HR)
                go_roundw
                case rel => exact ⟨k + 2, acc ++ [0], by omega, by omega, by simp; omega, by go_num, HB2, HK2, HR2, Lib.hid (by rw [← HI.out, HD.out, HD2.out, txGo_zero _ _ _ (by omega)]; rfl)⟩
                case measure => simp [intOf]; omega
            · go_wp2
              have hK := blk_set3 HK.out (.int .i64 0) (.int .i64 0) (.string ⟨#[]⟩)
              have k0 := blk_cell hK 0
              have k1 := blk_cell hK 1
              have k2 := blk_cell hK 2
              simp only [List.getElem?_toArray, List.getElem?_cons_zero, List.getElem?_cons_succ] at k0 k1 k2
              refine bodyPost_ret (v := .tuple #[.agg #[.int .i64 0, .int .i64 0, .string ⟨#[]⟩], .int .i64 (0), .int .i64 10]) (by simp [results, Try.results148, go_sem, k0, k1, k2]) rfl ⟨?_, by first | exact below_set3 HB.out (Nat.le_refl _) _ _ _ | exact below_al _ _⟩
              rw [← HI.out, HD.out, HD2.out, txGo_form _ _ _ _ hy hy2]; rfl
        · have hlt4 : ((k : Int) + 1 = (b.length : Int)) := by omega
          have HD2 := Lib.hid (show b.drop (k + 1) = [] from List.drop_eq_nil_of_le (by omega))
          go_wp2
          have hK := blk_set3 HK.out (.int .i64 0) (.int .i64 0) (.string ⟨#[]⟩)
          have k0 := blk_cell hK 0
          have k1 := blk_cell hK 1
          have k2 := blk_cell hK 2
          simp only [List.getElem?_toArray, List.getElem?_cons_zero, List.getElem?_cons_succ] at k0 k1 k2
          refine bodyPost_ret (v := .tuple #[.agg #[.int .i64 0, .int .i64 0, .string ⟨#[]⟩], .int .i64 (0), .int .i64 20]) (by simp [results, Try.results148, go_sem, k0, k1, k2]) rfl ⟨?_, by first | exact below_set3 HB.out (Nat.le_refl _) _ _ _ | exact below_al _ _⟩
          rw [← HI.out, HD.out, HD2.out, txGo_short]; rfl
      · by_cases hl : acc.length = 200
        · have hl2 : (acc.length : Int) = 200 := by omega
          go_wp2
          have hK := blk_set3 HK.out (.int .i64 0) (.int .i64 0) (.string ⟨#[]⟩)
          have k0 := blk_cell hK 0
          have k1 := blk_cell hK 1
          have k2 := blk_cell hK 2
          simp only [List.getElem?_toArray, List.getElem?_cons_zero, List.getElem?_cons_succ] at k0 k1 k2
          refine bodyPost_ret (v := .tuple #[.agg #[.int .i64 0, .int .i64 0, .string ⟨#[]⟩], .int .i64 (0), .int .i64 32]) (by simp [results, Try.results148, go_sem, k0, k1, k2]) rfl ⟨?_, by first | exact below_set3 HB.out (Nat.le_refl _) _ _ _ | exact below_al _ _⟩
          rw [← HI.out, HD.out, txGo_many _ _ _ _ hx (by omega)]; rfl
        · have hl2 : ¬ (acc.length : Int) = 200 := by omega
          have HX2 := Lib.hid hx
          go_wp2_with (at_builtin; (refine app_one HR.out info_u8 Try.underlying46 (M_int _) (fun _ _ => trivial) HB.out.size ?bL rfl (by decide) (by decide) rfl rfl rfl rfl ?_); (case bL => simp; omega); intro v2 w2 hR2 hb2 hg2 hat2; have HK2 := Lib.hid (blk_grown HK.out HR.out hg2 (by decide)); have HR2 := Lib.hid hR2; have HB2 := Lib.hid (HB.out.trans hb2); clear hR2 hg2 HR)
          go_roundw
          case rel => exact ⟨k + 1, acc ++ [x], by omega, by omega, by simp; omega, by go_num, HB2, HK2, HR2, Lib.hid (by rw [← HI.out, HD.out, txGo_one _ _ _ _ HX2.out (by omega)]; rfl)⟩
          case measure => simp [intOf]; omega
    · have hlt2 : ¬ (k : Int) < (b.length : Int) := by omega
      have HD := Lib.hid (show b.drop k = [] from List.drop_eq_nil_of_le (by omega))
      go_wp2
      have hK := blk_set3 HK.out (.int .i64 0) (.int .i64 0) (.string ⟨#[]⟩)
      have k0 := blk_cell hK 0
      have k1 := blk_cell hK 1
      have k2 := blk_cell hK 2
      simp only [List.getElem?_toArray, List.getElem?_cons_zero, List.getElem?_cons_succ] at k0 k1 k2
      refine bodyPost_ret (v := .tuple #[.agg #[.int .i64 0, .int .i64 0, .string ⟨#[]⟩], .int .i64 (0), .int .i64 20]) (by simp [results, Try.results148, go_sem, k0, k1, k2]) rfl ⟨?_, by first | exact below_set3 HB.out (Nat.le_refl _) _ _ _ | exact below_al _ _⟩
      rw [← HI.out, HD.out, txGo_nil]; rfl
end Go.Proofs.Ytonbnlfijmapfaa
/- value.Take. -/
namespace Go.Proofs.Ytonbnlfijmapfaa
open Go.RowKit Go.Shelf Go.Proofs.YtonbnlfijmapfaaW.PrintWords
set_option linter.unusedVariables false
set_option linter.unusedSimpArgs false

theorem u64_or_add (u y : Int) (h0 : 0 ≤ u) (h1 : u < 72057594037927936) (y0 : 0 ≤ y) (y1 : y < 256) : bits .or .u64 (u * 256) y = u * 256 + y := by
  rw [u64_or _ _ (by omega) (by omega) (by omega) (by omega), nat_join 8 _ _ (by omega) (by omega)]
  omega
theorem xor_back (u : Int) (h0 : 0 ≤ u) (h1 : u < 18446744073709551616) : wrap64 (bits .xor .u64 u 9223372036854775808) = u - 9223372036854775808 := by
  rw [u64_xor _ _ (by omega) (by omega) (by omega) (by omega), show ((9223372036854775808 : Int).toNat) = 2 ^ 63 from rfl]
  by_cases h : u.toNat < 2 ^ 63
  · rw [nat_xor_top _ h]
    unfold wrap64
    omega
  · have e : u.toNat = 2 ^ 63 + (u.toNat - 2 ^ 63) := by omega
    rw [e, ← nat_xor_top (u.toNat - 2 ^ 63) (by omega), Nat.xor_assoc, Nat.xor_self, Nat.xor_zero]
    unfold wrap64
    omega
set_option maxRecDepth 100000 in
set_option maxHeartbeats 4000000 in
theorem value_Take_calls (A : Option Addr) (c : Nat) (b : List Int) (w : World) (h : (Kd.int .u8).C w A b.length b) (hle : b.length ≤ c) (hby : ∀ x ∈ b, 0 ≤ x ∧ x < 256) :
    Calls Try.prog 127 #[.slice A b.length c] w fun e w' => e = valRet (takeV b) ∧ Below w.heap.size w w' := by
  have hm := Kd.C_max h
  have HX := Lib.hid h; clear h
  have HBY := Lib.hid hby; clear hby
  have HB := Lib.hid (below_al w (.cells #[.int .i64 0, .int .i64 0, .string ⟨#[]⟩] 42))
  have HK := Lib.hid (blk_new w #[.int .i64 0, .int .i64 0, .string ⟨#[]⟩] 42)
  cases b with
  | nil =>
    have hl0 : ((([] : List Int).length : Nat) : Int) = 0 := rfl
    go_enter Try.func127, Try.ntmps127
    go_wp2
    have hK := blk_set3 HK.out (.int .i64 0) (.int .i64 0) (.string ⟨#[]⟩)
    have k0 := blk_cell hK 0
    have k1 := blk_cell hK 1
    have k2 := blk_cell hK 2
    simp only [List.getElem?_toArray, List.getElem?_cons_zero, List.getElem?_cons_succ] at k0 k1 k2
    refine bodyPost_ret (v := .tuple #[.agg #[.int .i64 0, .int .i64 0, .string ⟨#[]⟩], .int .i64 (0), .int .i64 20]) (by simp [results, Try.results127, go_sem, k0, k1, k2]) rfl ⟨?_, by first | exact below_set3 HB.out (Nat.le_refl _) _ _ _ | exact below_al _ _⟩
    rfl
  | cons x t =>
    have HT : Hid (takeV (x :: t) = if x = 2 then txGo t [] 1 else if x = 1 then (if t.length < 8 then (zValue, 0, 20) else (⟨1, numOf (t.take 8) - 9223372036854775808, ⟨#[]⟩⟩, 9, 0)) else (zValue, 0, 22)) := Lib.hid rfl
    have HV : Hid (∀ W, Below w.heap.size w W → ∀ r0 r1 r2 rn re, txGo t [] 1 = (⟨r0, r1, r2⟩, rn, re) → Calls Try.prog 148 #[.slice A (x :: t).length c] W fun e w' => e = .returned (.tuple #[.agg #[.int .i64 r0, .int .i64 r1, .string r2], .int .i64 rn, .int .i64 re]) ∧ Below W.heap.size W w') :=
      Lib.hid (fun W hW r0 r1 r2 rn re hr => (value_text_calls A c (x :: t) W (Kd.C_below HX.out hW)).mono fun e w' ⟨he, hb⟩ => ⟨by rw [he, List.tail_cons, hr]; rfl, hb⟩)
    obtain ⟨ad, rfl, g0⟩ := Kd.at_int (Kd.C_below HX.out HB.out) 0 (by omega) (by simp)
    simp only [Int.toNat_zero, add_zero_, rd] at g0
    have hlen : 0 < (x :: t).length := by simp
    have hlen1 : ¬ (((x :: t).length : Nat) : Int) = 0 := by simp; omega
    have hx0 : (x :: t).getD 0 0 = x := rfl
    rw [hx0] at g0; clear hx0
    have HL := Lib.hid (show (x :: t).length = t.length + 1 from rfl)
    generalize hbb : x :: t = b at *
    have HBB := Lib.hid hbb; clear hbb
    by_cases h2 : x = 2
    · subst h2
      have HT2 := Lib.hid (show takeV b = txGo t [] 1 from by rw [HT.out, if_pos rfl])
      obtain ⟨⟨⟨r0, r1, r2⟩, rn, re⟩, hr⟩ : ∃ r, txGo t [] 1 = r := ⟨_, rfl⟩
      have HR := Lib.hid hr; clear hr
      go_enter Try.func127, Try.ntmps127
      go_wp2_with (go_at_call 148; refine (HV.out _ HB.out r0 r1 r2 rn re HR.out).mono ?_; rintro e w1 ⟨rfl, hb1⟩; replace HB := Lib.hid (keepB0 hb1 HB.out); replace HK := Lib.hid (blk_below hb1 HK.out); clear hb1; have hc0 : w1.cell? ⟨w.heap.size, 0, none⟩ = some (.int .i64 0) := blk_cell HK.out 0; have hc1 : w1.cell? ⟨w.heap.size, 1, none⟩ = some (.int .i64 0) := blk_cell HK.out 1; have hc2 : w1.cell? ⟨w.heap.size, 2, none⟩ = some (.string ⟨#[]⟩) := blk_cell HK.out 2; have hf0 := blk_frozen HK.out 0; have hf1 := blk_frozen HK.out 1; have hf2 := blk_frozen HK.out 2)
      have hK := blk_set3 HK.out (.int .i64 r0) (.int .i64 r1) (.string r2)
      have k0 := blk_cell hK 0
      have k1 := blk_cell hK 1
      have k2 := blk_cell hK 2
      simp only [List.getElem?_toArray, List.getElem?_cons_zero, List.getElem?_cons_succ] at k0 k1 k2
      refine bodyPost_ret (v := .tuple #[.agg #[.int .i64 r0, .int .i64 r1, .string r2], .int .i64 (rn), .int .i64 re]) (by simp [results, Try.results127, go_sem, k0, k1, k2]) rfl ⟨?_, by first | exact below_set3 HB.out (Nat.le_refl _) _ _ _ | exact below_al _ _⟩
      rw [HT2.out, HR.out]; rfl
    · by_cases h1 : x = 1
      · subst h1
        by_cases h9 : t.length < 8
        · have HT2 := Lib.hid (show takeV b = (zValue, 0, 20) from by rw [HT.out, if_neg h2, if_pos rfl, if_pos h9])
          have h10 : (b.length : Int) < 9 := by rw [HL.out]; omega
          go_enter Try.func127, Try.ntmps127
          go_wp2
          have hK := blk_set3 HK.out (.int .i64 0) (.int .i64 0) (.string ⟨#[]⟩)
          have k0 := blk_cell hK 0
          have k1 := blk_cell hK 1
          have k2 := blk_cell hK 2
          simp only [List.getElem?_toArray, List.getElem?_cons_zero, List.getElem?_cons_succ] at k0 k1 k2
          refine bodyPost_ret (v := .tuple #[.agg #[.int .i64 0, .int .i64 0, .string ⟨#[]⟩], .int .i64 (0), .int .i64 20]) (by simp [results, Try.results127, go_sem, k0, k1, k2]) rfl ⟨?_, by first | exact below_set3 HB.out (Nat.le_refl _) _ _ _ | exact below_al _ _⟩
          rw [HT2.out]; rfl
        · have HT2 := Lib.hid (show takeV b = (⟨1, numOf (t.take 8) - 9223372036854775808, ⟨#[]⟩⟩, 9, 0) from by rw [HT.out, if_neg h2, if_pos rfl, if_neg h9])
          have h10 : ¬ (b.length : Int) < 9 := by rw [HL.out]; omega
          go_enter Try.func127, Try.ntmps127
          have hc9 : 9 ≤ c := by rw [HL.out] at hle; omega
          have hb9 : 9 ≤ b.length := by rw [HL.out]; omega
          have HM : Hid ((Kd.int .u8).C w (some ⟨ad.block, ad.off + 1, none⟩) 8 (t.take 8)) := by
            have h3 := Kd.C_mid (lo := 1) (hi := 9) (c := c) HX.out (by omega) hb9 hle
            rw [if_neg (by omega), ← HBB.out, List.take_succ_cons, List.drop_succ_cons, List.drop_zero] at h3
            have e8 : (t.take 8).length = 8 := by rw [List.length_take]; omega
            rw [e8] at h3
            have e1 : (some ad).map (·.add (1 * (Kd.int .u8).sz)) = some ⟨ad.block, ad.off + 1, none⟩ := by
              show some (ad.add (0 + 1)) = _
              rw [add_more]
            rw [e1] at h3
            exact Lib.hid h3
          have HS : Hid (∀ z ∈ t.take 8, 0 ≤ z ∧ z < 256) := Lib.hid (fun z hz => HBY.out z (by rw [← HBB.out]; exact List.mem_cons_of_mem _ (List.mem_of_mem_take hz)))
          have HE8 := Lib.hid (show (t.take 8).length = 8 from by rw [List.length_take]; omega)
          generalize t.take 8 = u8 at HM HS HE8 HT2
          go_wp2_with fail
          go_loopw [5, 37] (fun v5 v37 wr => ∃ (j : Nat) (u : Int), j ≤ 8 ∧ v37 = .int .i64 (j : Int) ∧ v5 = .int .u64 u ∧ Hid (u = numOf (u8.take j)) ∧ wr = w.alloc (.cells #[.int .i64 0, .int .i64 0, .string ⟨#[]⟩] 42)) (fun _ v37 _ => (8 - intOf v37).toNat)
          case atStart => exact ⟨0, 0, by omega, rfl, rfl, Lib.hid (by simp [numOf]), rfl⟩
          case round =>
            obtain ⟨j, u, hj, rfl, rfl, HU, rfl⟩ := hrel
            by_cases hlt : j < 8
            · have hlt1 : (j : Int) < 8 := by omega
              obtain ⟨ad2, e2, g1⟩ := Kd.at_int (Kd.C_below HM.out HB.out) (j : Int) (by omega) (by omega)
              cases e2
              simp only [Int.toNat_natCast, rd, add_off] at g1
              have hy := HS.out (u8.getD j 0) (by rw [List.getD_eq_getElem?_getD, List.getElem?_eq_getElem (by rw [HE8.out]; exact hlt)]; exact List.getElem_mem _)
              have HY := Lib.hid (show u8.take (j + 1) = u8.take j ++ [u8.getD j 0] from by rw [List.take_succ_eq_append_getElem (by rw [HE8.out]; exact hlt), List.getD_eq_getElem?_getD, List.getElem?_eq_getElem (by rw [HE8.out]; exact hlt)]; rfl)
              generalize u8.getD j 0 = y at g1 hy HY
              obtain ⟨hy0, hy1⟩ := hy
              have hbd := numOf_lt (u8.take j) (fun z hz => HS.out z (List.mem_of_mem_take hz))
              have hp7 : (256 : Int) ^ (u8.take j).length ≤ 256 ^ 7 := by
                have : (u8.take j).length = j := by rw [List.length_take, HE8.out]; omega
                rw [this]
                have : j = 0 ∨ j = 1 ∨ j = 2 ∨ j = 3 ∨ j = 4 ∨ j = 5 ∨ j = 6 ∨ j = 7 := by omega
                rcases this with rfl | rfl | rfl | rfl | rfl | rfl | rfl | rfl <;> decide
              rw [← HU.out] at hbd
              have hu0 : 0 ≤ u := hbd.1
              have hu1 : u < 72057594037927936 := Int.lt_of_lt_of_le hbd.2 hp7
              clear hbd hp7
              have HO := Lib.hid (u64_or_add u y hu0 hu1 hy0 hy1)
              have HN := Lib.hid (show numOf (u8.take (j + 1)) = u * 256 + y from by rw [HY.out, numOf_snoc, ← HU.out])
              go_wp2
              go_roundw
              case rel => exact ⟨j + 1, _, by omega, by go_num, rfl, Lib.hid (by rw [HN.out]; exact HO.out), by trivial⟩
              case measure => simp [intOf]; omega
            · have hlt1 : ¬ (j : Int) < 8 := by omega
              obtain rfl : j = 8 := by omega
              have hbd := numOf_lt u8 HS.out
              rw [HE8.out] at hbd
              have hU2 : u = numOf u8 := by rw [HU.out, List.take_of_length_le (by rw [HE8.out]; omega)]
              rw [← hU2] at HT2 hbd
              have hbd2 : 0 ≤ u ∧ u < 18446744073709551616 := ⟨hbd.1, hbd.2⟩
              have hx2 := xor_back u hbd2.1 hbd2.2
              clear hU2 hbd hbd2
              go_wp2
              have hK := blk_set3 HK.out (.int .i64 1) (.int .i64 (u - 9223372036854775808)) (.string ⟨#[]⟩)
              have k0 := blk_cell hK 0
              have k1 := blk_cell hK 1
              have k2 := blk_cell hK 2
              simp only [List.getElem?_toArray, List.getElem?_cons_zero, List.getElem?_cons_succ] at k0 k1 k2
              refine bodyPost_ret (v := .tuple #[.agg #[.int .i64 1, .int .i64 (u - 9223372036854775808), .string ⟨#[]⟩], .int .i64 (9), .int .i64 0]) (by simp [results, Try.results127, go_sem, k0, k1, k2]) rfl ⟨?_, by first | exact below_set3 HB.out (Nat.le_refl _) _ _ _ | exact below_al _ _⟩
              rw [HT2.out]; rfl
      · have HT2 := Lib.hid (show takeV b = (zValue, 0, 22) from by rw [HT.out, if_neg h2, if_neg h1])
        go_enter Try.func127, Try.ntmps127
        go_wp2
        have hK := blk_set3 HK.out (.int .i64 0) (.int .i64 0) (.string ⟨#[]⟩)
        have k0 := blk_cell hK 0
        have k1 := blk_cell hK 1
        have k2 := blk_cell hK 2
        simp only [List.getElem?_toArray, List.getElem?_cons_zero, List.getElem?_cons_succ] at k0 k1 k2
        refine bodyPost_ret (v := .tuple #[.agg #[.int .i64 0, .int .i64 0, .string ⟨#[]⟩], .int .i64 (0), .int .i64 22]) (by simp [results, Try.results127, go_sem, k0, k1, k2]) rfl ⟨?_, by first | exact below_set3 HB.out (Nat.le_refl _) _ _ _ | exact below_al _ _⟩
        rw [HT2.out]; rfl
end Go.Proofs.Ytonbnlfijmapfaa
/- cobwebref02.Take. -/
namespace Go.Proofs.Ytonbnlfijmapfaa
open Go.RowKit Go.Shelf Go.Proofs.YtonbnlfijmapfaaW.PrintWords
set_option linter.unusedVariables false
set_option linter.unusedSimpArgs false

theorem strOfNums_snoc (l : List Int) (x : Int) : strOfNums l ++ strOfNums [x] = strOfNums (l ++ [x]) := by
  simp only [strOfNums, List.map_append, List.map_cons, List.map_nil]
  apply ByteArray.ext
  simp
theorem sub_back (u : Int) (h0 : 0 ≤ u) (h1 : u < 18446744073709551616) : wrap64 (IntKind.u64.wrap (u - 9223372036854775808)) = u - 9223372036854775808 := by
  simp only [IntKind.wrap, IntKind.bits, IntKind.signed]
  unfold wrap64
  simp
  omega
set_option maxRecDepth 100000 in
set_option maxHeartbeats 4000000 in
theorem ref02_Take_calls (A : Option Addr) (c : Nat) (b : List Int) (w : World) (h : (Kd.int .u8).C w A b.length b) (hby : ∀ x ∈ b, 0 ≤ x ∧ x < 256) :
    Calls Try.prog 128 #[.slice A b.length c] w fun e w' => e = valRet (takeV b) ∧ Below w.heap.size w w' := by
  have hm := Kd.C_max h
  have HX := Lib.hid h; clear h
  have HBY := Lib.hid hby; clear hby
  have HB := Lib.hid (below_al w (.cells #[.int .i64 0, .int .i64 0, .string ⟨#[]⟩] 42))
  have HK := Lib.hid (blk_new w #[.int .i64 0, .int .i64 0, .string ⟨#[]⟩] 42)
  cases b with
  | nil =>
    have hl0 : ((([] : List Int).length : Nat) : Int) = 0 := rfl
    go_enter Try.func128, Try.ntmps128
    go_wp2
    have hK := blk_set3 HK.out (.int .i64 0) (.int .i64 0) (.string ⟨#[]⟩)
    have k0 := blk_cell hK 0
    have k1 := blk_cell hK 1
    have k2 := blk_cell hK 2
    simp only [List.getElem?_toArray, List.getElem?_cons_zero, List.getElem?_cons_succ] at k0 k1 k2
    refine bodyPost_ret (v := .tuple #[.agg #[.int .i64 0, .int .i64 0, .string ⟨#[]⟩], .int .i64 (0), .int .i64 20]) (by simp [results, Try.results128, go_sem, k0, k1, k2]) rfl ⟨?_, by first | exact below_set3 HB.out (Nat.le_refl _) _ _ _ | exact below_al _ _⟩
    rfl
  | cons x t =>
    have HT : Hid (takeV (x :: t) = if x = 2 then txGo t [] 1 else if x = 1 then (if t.length < 8 then (zValue, 0, 20) else (⟨1, numOf (t.take 8) - 9223372036854775808, ⟨#[]⟩⟩, 9, 0)) else (zValue, 0, 22)) := Lib.hid rfl
    obtain ⟨ad, rfl, g0⟩ := Kd.at_int (Kd.C_below HX.out HB.out) 0 (by omega) (by simp)
    simp only [Int.toNat_zero, add_zero_, rd] at g0
    have hlen : 0 < (x :: t).length := by simp
    have hlen1 : ¬ (((x :: t).length : Nat) : Int) = 0 := by simp; omega
    have hx0 : (x :: t).getD 0 0 = x := rfl
    rw [hx0] at g0; clear hx0
    have HL := Lib.hid (show (x :: t).length = t.length + 1 from rfl)
    have HD1 := Lib.hid (show (x :: t).drop 1 = t from rfl)
    generalize hbb : x :: t = b at *
    have HBB := Lib.hid hbb; clear hbb
    by_cases h2 : x = 2
    · subst h2
      have HT2 := Lib.hid (show takeV b = txGo t [] 1 from by rw [HT.out, if_pos rfl])
      have q := str_box1
      go_enter Try.func128, Try.ntmps128
      go_wp2_with fail
      go_loopw [7, 8] (fun v7 v8 wr => ∃ (k : Nat) (acc : List Int), 1 ≤ k ∧ k ≤ b.length ∧ acc.length ≤ 200 ∧ v8 = .int .i64 k ∧ v7 = .string (strOfNums acc) ∧ Hid (Below w.heap.size w wr) ∧ Hid (Blk wr w.heap.size #[.int .i64 0, .int .i64 0, .string ⟨#[]⟩] 42) ∧ Hid (txGo (b.drop k) acc k = txGo t [] 1)) (fun _ v8 _ => b.length - (intOf v8).toNat)
      case atStart => exact ⟨1, [], by omega, by omega, by simp, rfl, rfl, HB, HK, Lib.hid (by rw [HD1.out]; rfl)⟩
      case round =>
        clear g0 HB HK
        obtain ⟨k, acc, hk1, hk, hac, rfl, rfl, HB, HK, HI⟩ := hrel
        have hz := strOfNums_size acc
        have hc0 : wr.cell? ⟨w.heap.size, 0, none⟩ = some (.int .i64 0) := blk_cell HK.out 0
        have hc1 : wr.cell? ⟨w.heap.size, 1, none⟩ = some (.int .i64 0) := blk_cell HK.out 1
        have hc2 : wr.cell? ⟨w.heap.size, 2, none⟩ = some (.string ⟨#[]⟩) := blk_cell HK.out 2
        have hf0 := blk_frozen HK.out 0
        have hf1 := blk_frozen HK.out 1
        have hf2 := blk_frozen HK.out 2
        by_cases hlt : k < b.length
        · have hlt2 : (k : Int) < (b.length : Int) := by omega
          have HD := Lib.hid (drop_cons b k 0 hlt)
          obtain ⟨ad2, e2, g0⟩ := Kd.at_int (Kd.C_below HX.out HB.out) (k : Int) (by omega) (by omega)
          cases e2
          simp only [Int.toNat_natCast, rd] at g0
          have g0' := fun o => pw_cell_below (below_al wr o) g0
          have hc0' := fun o => pw_cell_below (below_al wr o) hc0
          have hc1' := fun o => pw_cell_below (below_al wr o) hc1
          have hc2' := fun o => pw_cell_below (below_al wr o) hc2
          have hf0' := fun o => blk_frozen (blk_alloc HK.out o) 0
          have hf1' := fun o => blk_frozen (blk_alloc HK.out o) 1
          have hf2' := fun o => blk_frozen (blk_alloc HK.out o) 2
          have hy := HBY.out (b.getD k 0) (by rw [List.getD_eq_getElem?_getD, List.getElem?_eq_getElem hlt]; exact List.getElem_mem _)
          generalize b.getD k 0 = x at HD g0 g0' hy
          by_cases hx : x = 0
          · subst hx
            clear hy
            have hB9 := keepB0 (below_al wr (.cells #[.int .u8 0] 5)) HB.out
            have hK9 := blk_alloc HK.out (.cells #[.int .u8 0] 5)
            have HB1 := Lib.hid hB9
            have HK1 := Lib.hid hK9
            clear hB9 hK9
            by_cases hlt3 : k + 1 < b.length
            · have hlt4 : ¬ ((b.length : Int) ≤ (k : Int) + 1) := by omega
              have HD2 := Lib.hid (drop_cons b (k + 1) 0 hlt3)
              obtain ⟨ad2, e2, g1⟩ := Kd.at_int (Kd.C_below HX.out HB.out) ((k : Int) + 1) (by omega) (by omega)
              cases e2
              have et : ((k : Int) + 1).toNat = k + 1 := by omega
              simp only [et, rd, add_more] at g1
              clear et
              have g1' := fun o => pw_cell_below (below_al wr o) g1
              generalize b.getD (k + 1) 0 = y at HD2 g1 g1'
              by_cases hy : y = 0
              · subst hy
                go_wp2
                replace HB := HB1
                replace HK := HK1
                have hK := blk_set3 HK.out (.int .i64 2) (.int .i64 0) (.string (strOfNums acc))
                have k0 := blk_cell hK 0
                have k1 := blk_cell hK 1
                have k2 := blk_cell hK 2
                simp only [List.getElem?_toArray, List.getElem?_cons_zero, List.getElem?_cons_succ] at k0 k1 k2
                refine bodyPost_ret (v := .tuple #[.agg #[.int .i64 2, .int .i64 0, .string (strOfNums acc)], .int .i64 ((k : Int) + 2), .int .i64 0]) (by simp [results, Try.results128, go_sem, k0, k1, k2]) rfl ⟨?_, by first | exact below_set3 HB.out (Nat.le_refl _) _ _ _ | exact below_al _ _⟩
                rw [HT2.out, ← HI.out, HD.out, HD2.out, txGo_end]; rfl
              · by_cases hy2 : y = 255
                · subst hy2
                  by_cases hl : acc.length = 200
                  · have hl2 : (200 : Int) ≤ ((strOfNums acc).size : Int) := by omega
                    clear hz
                    go_wp2
                    replace HB := HB1
                    replace HK := HK1
                    have hK := blk_set3 HK.out (.int .i64 0) (.int .i64 0) (.string ⟨#[]⟩)
                    have k0 := blk_cell hK 0
                    have k1 := blk_cell hK 1
                    have k2 := blk_cell hK 2
                    simp only [List.getElem?_toArray, List.getElem?_cons_zero, List.getElem?_cons_succ] at k0 k1 k2
                    refine bodyPost_ret (v := .tuple #[.agg #[.int .i64 0, .int .i64 0, .string ⟨#[]⟩], .int .i64 (0), .int .i64 32]) (by simp [results, Try.results128, go_sem, k0, k1, k2]) rfl ⟨?_, by first | exact below_set3 HB.out (Nat.le_refl _) _ _ _ | exact below_al _ _⟩
                    rw [HT2.out, ← HI.out, HD.out, HD2.out, txGo_zmany _ _ _ (by omega)]; rfl
                  · have hl2 : ¬ (200 : Int) ≤ ((strOfNums acc).size : Int) := by omega
                    have hs1 : (strOfNums acc).size ≤ 200 := by omega
                    have hs2 : (strOfNums [0]).size ≤ 1 := by rw [strOfNums_size]; simp
                    clear hz
                    go_wp2
                    go_roundw
                    case rel => exact ⟨k + 2, acc ++ [0], by omega, by omega, by simp; omega, by go_num, congrArg Value.string (strOfNums_snoc _ _), HB1, HK1, Lib.hid (by rw [← HI.out, HD.out, HD2.out, txGo_zero _ _ _ (by omega)]; rfl)⟩
                    case measure => simp [intOf]; omega
                · go_wp2
                  replace HB := HB1
                  replace HK := HK1
                  have hK := blk_set3 HK.out (.int .i64 0) (.int .i64 0) (.string ⟨#[]⟩)
                  have k0 := blk_cell hK 0
                  have k1 := blk_cell hK 1
                  have k2 := blk_cell hK 2
                  simp only [List.getElem?_toArray, List.getElem?_cons_zero, List.getElem?_cons_succ] at k0 k1 k2
                  refine bodyPost_ret (v := .tuple #[.agg #[.int .i64 0, .int .i64 0, .string ⟨#[]⟩], .int .i64 (0), .int .i64 10]) (by simp [results, Try.results128, go_sem, k0, k1, k2]) rfl ⟨?_, by first | exact below_set3 HB.out (Nat.le_refl _) _ _ _ | exact below_al _ _⟩
                  rw [HT2.out, ← HI.out, HD.out, HD2.out, txGo_form _ _ _ _ hy hy2]; rfl
            · have hlt4 : ((b.length : Int) ≤ (k : Int) + 1) := by omega
              have HD2 := Lib.hid (show b.drop (k + 1) = [] from List.drop_eq_nil_of_le (by omega))
              go_wp2
              replace HB := HB1
              replace HK := HK1
              have hK := blk_set3 HK.out (.int .i64 0) (.int .i64 0) (.string ⟨#[]⟩)
              have k0 := blk_cell hK 0
              have k1 := blk_cell hK 1
              have k2 := blk_cell hK 2
              simp only [List.getElem?_toArray, List.getElem?_cons_zero, List.getElem?_cons_succ] at k0 k1 k2
              refine bodyPost_ret (v := .tuple #[.agg #[.int .i64 0, .int .i64 0, .string ⟨#[]⟩], .int .i64 (0), .int .i64 20]) (by simp [results, Try.results128, go_sem, k0, k1, k2]) rfl ⟨?_, by first | exact below_set3 HB.out (Nat.le_refl _) _ _ _ | exact below_al _ _⟩
              rw [HT2.out, ← HI.out, HD.out, HD2.out, txGo_short]; rfl
          · by_cases hl : acc.length = 200
            · have hl2 : (200 : Int) ≤ ((strOfNums acc).size : Int) := by omega
              have HZ := Lib.hid hz; clear hz
              go_wp2
              have hB9 := keepB0 (below_al wr (.cells #[.int .u8 x] 5)) HB.out
              have hK9 := blk_alloc HK.out (.cells #[.int .u8 x] 5)
              replace HB := Lib.hid hB9
              replace HK := Lib.hid hK9
              have hK := blk_set3 HK.out (.int .i64 0) (.int .i64 0) (.string ⟨#[]⟩)
              have k0 := blk_cell hK 0
              have k1 := blk_cell hK 1
              have k2 := blk_cell hK 2
              simp only [List.getElem?_toArray, List.getElem?_cons_zero, List.getElem?_cons_succ] at k0 k1 k2
              refine bodyPost_ret (v := .tuple #[.agg #[.int .i64 0, .int .i64 0, .string ⟨#[]⟩], .int .i64 (0), .int .i64 32]) (by simp [results, Try.results128, go_sem, k0, k1, k2]) rfl ⟨?_, by first | exact below_set3 HB.out (Nat.le_refl _) _ _ _ | exact below_al _ _⟩
              rw [HT2.out, ← HI.out, HD.out, txGo_many _ _ _ _ hx (by omega)]; rfl
            · have hl2 : ¬ (200 : Int) ≤ ((strOfNums acc).size : Int) := by omega
              have hs1 : (strOfNums acc).size ≤ 200 := by omega
              have hs2 : (strOfNums [x]).size ≤ 1 := by rw [strOfNums_size]; simp
              clear hz
              have HX2 := Lib.hid hx
              go_wp2
              go_roundw
              case rel => exact ⟨k + 1, acc ++ [x], by omega, by omega, by simp; omega, by go_num, congrArg Value.string (strOfNums_snoc _ _), Lib.hid (keepB0 (below_al _ _) HB.out), Lib.hid (blk_alloc HK.out _), Lib.hid (by rw [← HI.out, HD.out, txGo_one _ _ _ _ HX2.out (by omega)]; rfl)⟩
              case measure => simp [intOf]; omega
        · have hlt2 : ¬ (k : Int) < (b.length : Int) := by omega
          have HD := Lib.hid (show b.drop k = [] from List.drop_eq_nil_of_le (by omega))
          go_wp2
          have hK := blk_set3 HK.out (.int .i64 0) (.int .i64 0) (.string ⟨#[]⟩)
          have k0 := blk_cell hK 0
          have k1 := blk_cell hK 1
          have k2 := blk_cell hK 2
          simp only [List.getElem?_toArray, List.getElem?_cons_zero, List.getElem?_cons_succ] at k0 k1 k2
          refine bodyPost_ret (v := .tuple #[.agg #[.int .i64 0, .int .i64 0, .string ⟨#[]⟩], .int .i64 (0), .int .i64 20]) (by simp [results, Try.results128, go_sem, k0, k1, k2]) rfl ⟨?_, by first | exact below_set3 HB.out (Nat.le_refl _) _ _ _ | exact below_al _ _⟩
          rw [HT2.out, ← HI.out, HD.out, txGo_nil]; rfl
    · by_cases h1 : x = 1
      · subst h1
        by_cases h9 : t.length < 8
        · have HT2 := Lib.hid (show takeV b = (zValue, 0, 20) from by rw [HT.out, if_neg h2, if_pos rfl, if_pos h9])
          have h10 : (b.length : Int) < 9 := by rw [HL.out]; omega
          go_enter Try.func128, Try.ntmps128
          go_wp2
          have hK := blk_set3 HK.out (.int .i64 0) (.int .i64 0) (.string ⟨#[]⟩)
          have k0 := blk_cell hK 0
          have k1 := blk_cell hK 1
          have k2 := blk_cell hK 2
          simp only [List.getElem?_toArray, List.getElem?_cons_zero, List.getElem?_cons_succ] at k0 k1 k2
          refine bodyPost_ret (v := .tuple #[.agg #[.int .i64 0, .int .i64 0, .string ⟨#[]⟩], .int .i64 (0), .int .i64 20]) (by simp [results, Try.results128, go_sem, k0, k1, k2]) rfl ⟨?_, by first | exact below_set3 HB.out (Nat.le_refl _) _ _ _ | exact below_al _ _⟩
          rw [HT2.out]; rfl
        · have HT2 := Lib.hid (show takeV b = (⟨1, numOf (t.take 8) - 9223372036854775808, ⟨#[]⟩⟩, 9, 0) from by rw [HT.out, if_neg h2, if_pos rfl, if_neg h9])
          have h10 : ¬ (b.length : Int) < 9 := by rw [HL.out]; omega
          have hb9 : 9 ≤ b.length := by rw [HL.out]; omega
          have HS : Hid (∀ z ∈ t.take 8, 0 ≤ z ∧ z < 256) := Lib.hid (fun z hz => HBY.out z (by rw [← HBB.out]; exact List.mem_cons_of_mem _ (List.mem_of_mem_take hz)))
          have HE8 := Lib.hid (show (t.take 8).length = 8 from by rw [List.length_take]; omega)
          have HG : Hid (∀ j, j < 8 → b.getD (j + 1) 0 = (t.take 8).getD j 0) := Lib.hid (fun j hj => by
            rw [← HBB.out, List.getD_eq_getElem?_getD, List.getD_eq_getElem?_getD, List.getElem?_cons_succ, List.getElem?_take_of_lt hj])
          generalize t.take 8 = u8 at HS HE8 HT2 HG
          go_enter Try.func128, Try.ntmps128
          go_wp2_with fail
          go_loopw [5, 6] (fun v5 v6 wr => ∃ (j : Nat) (u : Int), j ≤ 8 ∧ v6 = .int .i64 ((j : Int) + 1) ∧ v5 = .int .u64 u ∧ Hid (u = numOf (u8.take j)) ∧ wr = w.alloc (.cells #[.int .i64 0, .int .i64 0, .string ⟨#[]⟩] 42)) (fun _ v6 _ => (9 - intOf v6).toNat)
          case atStart => exact ⟨0, 0, by omega, rfl, rfl, Lib.hid (by simp [numOf]), rfl⟩
          case round =>
            obtain ⟨j, u, hj, rfl, rfl, HU, rfl⟩ := hrel
            by_cases hlt : j < 8
            · have hlt1 : (j : Int) + 1 < 9 := by omega
              have hlt2 : (j : Int) + 1 < (b.length : Int) := by omega
              obtain ⟨ad2, e2, g1⟩ := Kd.at_int (Kd.C_below HX.out HB.out) ((j : Int) + 1) (by omega) (by omega)
              cases e2
              have et : ((j : Int) + 1).toNat = j + 1 := by omega
              simp only [et, rd, add_more] at g1
              clear et
              rw [HG.out j hlt] at g1
              have hy := HS.out (u8.getD j 0) (by rw [List.getD_eq_getElem?_getD, List.getElem?_eq_getElem (by rw [HE8.out]; exact hlt)]; exact List.getElem_mem _)
              have HY := Lib.hid (show u8.take (j + 1) = u8.take j ++ [u8.getD j 0] from by rw [List.take_succ_eq_append_getElem (by rw [HE8.out]; exact hlt), List.getD_eq_getElem?_getD, List.getElem?_eq_getElem (by rw [HE8.out]; exact hlt)]; rfl)
              generalize u8.getD j 0 = y at g1 hy HY
              obtain ⟨hy0, hy1⟩ := hy
              have hbd := numOf_lt (u8.take j) (fun z hz => HS.out z (List.mem_of_mem_take hz))
              have hp7 : (256 : Int) ^ (u8.take j).length ≤ 256 ^ 7 := by
                have : (u8.take j).length = j := by rw [List.length_take, HE8.out]; omega
                rw [this]
                have : j = 0 ∨ j = 1 ∨ j = 2 ∨ j = 3 ∨ j = 4 ∨ j = 5 ∨ j = 6 ∨ j = 7 := by omega
                rcases this with rfl | rfl | rfl | rfl | rfl | rfl | rfl | rfl <;> decide
              rw [← HU.out] at hbd
              have hu0 : 0 ≤ u := hbd.1
              have hu1 : u < 72057594037927936 := Int.lt_of_lt_of_le hbd.2 hp7
              clear hbd hp7
              have HN := Lib.hid (show numOf (u8.take (j + 1)) = u * 256 + y from by rw [HY.out, numOf_snoc, ← HU.out])
              go_wp2
              go_roundw
              case rel => exact ⟨j + 1, _, by omega, by go_num, rfl, Lib.hid (by rw [HN.out]), by trivial⟩
              case measure => simp [intOf]; omega
            · have hlt1 : ¬ (j : Int) + 1 < 9 := by omega
              obtain rfl : j = 8 := by omega
              have hbd := numOf_lt u8 HS.out
              rw [HE8.out] at hbd
              have hU2 : u = numOf u8 := by rw [HU.out, List.take_of_length_le (by rw [HE8.out]; omega)]
              rw [← hU2] at HT2 hbd
              have hbd2 : 0 ≤ u ∧ u < 18446744073709551616 := ⟨hbd.1, hbd.2⟩
              have hx2 := sub_back u hbd2.1 hbd2.2
              clear hU2 hbd hbd2
              go_wp2
              have hK := blk_set3 HK.out (.int .i64 1) (.int .i64 (u - 9223372036854775808)) (.string ⟨#[]⟩)
              have k0 := blk_cell hK 0
              have k1 := blk_cell hK 1
              have k2 := blk_cell hK 2
              simp only [List.getElem?_toArray, List.getElem?_cons_zero, List.getElem?_cons_succ] at k0 k1 k2
              refine bodyPost_ret (v := .tuple #[.agg #[.int .i64 1, .int .i64 (u - 9223372036854775808), .string ⟨#[]⟩], .int .i64 (9), .int .i64 0]) (by simp [results, Try.results128, go_sem, k0, k1, k2]) rfl ⟨?_, by first | exact below_set3 HB.out (Nat.le_refl _) _ _ _ | exact below_al _ _⟩
              rw [HT2.out]; rfl
      · have HT2 := Lib.hid (show takeV b = (zValue, 0, 22) from by rw [HT.out, if_neg h2, if_neg h1])
        go_enter Try.func128, Try.ntmps128
        go_wp2
        have hK := blk_set3 HK.out (.int .i64 0) (.int .i64 0) (.string ⟨#[]⟩)
        have k0 := blk_cell hK 0
        have k1 := blk_cell hK 1
        have k2 := blk_cell hK 2
        simp only [List.getElem?_toArray, List.getElem?_cons_zero, List.getElem?_cons_succ] at k0 k1 k2
        refine bodyPost_ret (v := .tuple #[.agg #[.int .i64 0, .int .i64 0, .string ⟨#[]⟩], .int .i64 (0), .int .i64 22]) (by simp [results, Try.results128, go_sem, k0, k1, k2]) rfl ⟨?_, by first | exact below_set3 HB.out (Nat.le_refl _) _ _ _ | exact below_al _ _⟩
        rw [HT2.out]; rfl
end Go.Proofs.Ytonbnlfijmapfaa
