/- Texts of this proof, joined: L34, R0, W0, W1, W2, W3, W4, R1, R2, R3, R4. No condition. -/
import Derived.Test.YtonbnlfijmapfaaI3
import Derived.Test.YtonbnlfijmapfaaI2
/- cobwebref03.Right, cobwebref16.Check. -/
namespace Go.Proofs.Ytonbnlfijmapfaa
open Go.RowKit Go.Shelf Go.Proofs.YtonbnlfijmapfaaW.PrintWords
set_option linter.unusedVariables false
set_option linter.unusedSimpArgs false

set_option maxRecDepth 100000 in
set_option maxHeartbeats 4000000 in
theorem ref03_Right_calls (A : Option Addr) (c : Nat) (l : List SPrp) (w : World) (h : kPrp.C w A l.length l) (hf : fits l) :
    Calls Try.prog 75 #[.slice A l.length c] w fun e w' => e = .returned (.bool (propsRight l)) ∧ Below w.heap.size w w' := by
  have hm := Kd.C_max h
  have HX := Lib.hid h; clear h
  have HF := Lib.hid hf; clear hf
  by_cases h16 : l.length ≤ 16
  · have h16' : ¬ (16 : Int) < (l.length : Int) := by omega
    go_enter Try.func75, Try.ntmps75
    go_wp2
    go_loopw [3] (fun s3 wr => ∃ k : Nat, k ≤ l.length ∧ s3 = .int .i64 k ∧ Hid (Below w.heap.size w wr) ∧ Hid (propsFrom (prevAt l k) (l.drop k) = propsFrom none l)) (fun s3 _ => l.length - (intOf s3).toNat)
    case atStart => exact ⟨0, Nat.zero_le _, rfl, Lib.hid (Below.refl _ w), Lib.hid rfl⟩
    case round =>
      obtain ⟨k, hk, rfl, HB, HI⟩ := hrel
      by_cases hlt : k < l.length
      · have hlt2 : (k : Int) < (l.length : Int) := by omega
        have HS := Lib.hid (propsFrom_at l k hlt)
        have hmem : l.getD k zPrp ∈ l := by simp [List.getD_eq_getElem?_getD, List.getElem?_eq_getElem hlt]
        have hs := HF.out _ hmem
        obtain ⟨ad, rfl, g0, g1, g2, g3⟩ := at_Prp (Kd.C_below HX.out HB.out) (k : Int) (by omega) (by omega)
        simp only [Int.toNat_natCast, rd_Prp] at g0 g1 g2 g3
        obtain ⟨⟨y0, ⟨y1, y2, y3⟩⟩, hy⟩ : ∃ q, l.getD k zPrp = q := ⟨_, rfl⟩
        rw [hy] at g0 g1 g2 g3 HS hs
        clear hy hmem
        simp only at g0 g1 g2 g3 hs HS
        cases hN : nameRight y0 with
        | false =>
          have HE := Lib.hid (propsRight_no (by rw [← HI.out, HS.out, hN]; rfl))
          go_wp2_with (go_at_call 67; refine (ref01_Right_calls y0 _ (by omega)).mono ?_; rw [hN]; rintro e w2 ⟨rfl, hb2⟩; replace HB := Lib.hid (keepB0 hb2 HB.out); replace g0 := pw_cell_below hb2 g0; replace g1 := pw_cell_below hb2 g1; replace g2 := pw_cell_below hb2 g2; replace g3 := pw_cell_below hb2 g3; (try replace f0 := pw_cell_below hb2 f0); clear hb2)
          go_ret
          exact ⟨ret_bool HE.out.symm, HB.out⟩
        | true =>
        cases hV : valOk y1 y2 y3 with
        | false =>
          have HE := Lib.hid (propsRight_no (by rw [← HI.out, HS.out, hN, show SValue.ok ⟨y1, y2, y3⟩ = false from hV]; rfl))
          go_wp2_with (first
            | (go_at_call 67; refine (ref01_Right_calls y0 _ (by omega)).mono ?_; rw [hN]; rintro e w2 ⟨rfl, hb2⟩; replace HB := Lib.hid (keepB0 hb2 HB.out); replace g0 := pw_cell_below hb2 g0; replace g1 := pw_cell_below hb2 g1; replace g2 := pw_cell_below hb2 g2; replace g3 := pw_cell_below hb2 g3; (try replace f0 := pw_cell_below hb2 f0); clear hb2)
            | (go_at_call 22; refine (ref02_Right_calls y1 y2 y3 _).mono ?_; rw [hV]; rintro e w3 ⟨rfl, hb2⟩; replace HB := Lib.hid (keepB0 hb2 HB.out); replace g0 := pw_cell_below hb2 g0; (try replace f0 := pw_cell_below hb2 f0); clear hb2))
          go_ret
          exact ⟨ret_bool HE.out.symm, HB.out⟩
        | true =>
        have hV' : SValue.ok ⟨y1, y2, y3⟩ = true := hV
        cases k with
        | zero =>
          have HE := Lib.hid (HS.out.symm.trans HI.out)
          rw [hN, hV'] at HE
          simp only [Nat.zero_mul, add_zero_] at g0 g1 g2 g3
          go_wp2_with (first
            | (go_at_call 67; refine (ref01_Right_calls y0 _ (by omega)).mono ?_; rw [hN]; rintro e w2 ⟨rfl, hb2⟩; replace HB := Lib.hid (keepB0 hb2 HB.out); replace g0 := pw_cell_below hb2 g0; replace g1 := pw_cell_below hb2 g1; replace g2 := pw_cell_below hb2 g2; replace g3 := pw_cell_below hb2 g3; (try replace f0 := pw_cell_below hb2 f0); clear hb2)
            | (go_at_call 22; refine (ref02_Right_calls y1 y2 y3 _).mono ?_; rw [hV]; rintro e w3 ⟨rfl, hb2⟩; replace HB := Lib.hid (keepB0 hb2 HB.out); replace g0 := pw_cell_below hb2 g0; (try replace f0 := pw_cell_below hb2 f0); clear hb2))
          go_big_quiet (fail)
          go_wp2
          go_roundw
          case rel => exact ⟨1, by omega, by go_num, Lib.hid (pw_below_drewN HB.out _), Lib.hid (by rw [← HE.out]; simp [prevAt])⟩
          case measure => simp [intOf]; omega
        | succ m =>
          obtain ⟨ad', e, f0, -, -, -⟩ := at_Prp (Kd.C_below HX.out HB.out) (m : Int) (by omega) (by omega)
          cases e
          simp only [Int.toNat_natCast, rd_Prp] at f0
          have hmem2 := HF.out (l.getD m zPrp) (by simp [List.getD_eq_getElem?_getD, List.getElem?_eq_getElem (show m < l.length by omega)])
          have HP : Hid (prevAt l (m + 1) = some (l.getD m zPrp).f0) := Lib.hid (by simp [prevAt])
          generalize (l.getD m zPrp).f0 = x0 at f0 HP hmem2
          have hwr : IntKind.i64.wrap (m : Int) = (m : Int) := IntWalk.i64_in _ (by omega)
          have hm1 : (0 : Int) ≤ (m : Int) := by omega
          have hm2 : (m : Int) < (l.length : Int) := by omega
          have hm3 : (m : Int) + 1 < (l.length : Int) := by omega
          have hm5 : (0 : Int) ≤ (m : Int) + 1 := by omega
          have hm6 : ¬ ((m : Int) + 1 < 0) := by omega
          have hm7 : ¬ ((l.length : Int) ≤ (m : Int) + 1) := by omega
          cases hO : decide (0 ≤ cmpS x0 y0) with
          | true =>
            have HE := Lib.hid (propsRight_no (by rw [← HI.out, HS.out, hN, hV', HP.out]; have := of_decide_eq_true hO; simp [Int.not_lt.2 this]))
            go_wp2_with (first
              | (go_at_call 67; refine (ref01_Right_calls y0 _ (by omega)).mono ?_; rw [hN]; rintro e w2 ⟨rfl, hb2⟩; replace HB := Lib.hid (keepB0 hb2 HB.out); replace g0 := pw_cell_below hb2 g0; replace g1 := pw_cell_below hb2 g1; replace g2 := pw_cell_below hb2 g2; replace g3 := pw_cell_below hb2 g3; (try replace f0 := pw_cell_below hb2 f0); clear hb2)
              | (go_at_call 22; refine (ref02_Right_calls y1 y2 y3 _).mono ?_; rw [hV]; rintro e w3 ⟨rfl, hb2⟩; replace HB := Lib.hid (keepB0 hb2 HB.out); replace g0 := pw_cell_below hb2 g0; (try replace f0 := pw_cell_below hb2 f0); clear hb2))
            refine wp_region_held_drew (S := (fun w' => w'.cell? (ad.add (m * 4)) = some (.string x0) ∧ w'.cell? (ad.add ((m + 1) * 4)) = some (.string y0) ∧ Below w.heap.size w w')) (by kernel_rfl) ?hS101 (fun hH0 => ?_)
            case hS101 => exact ⟨pw_cell_below (below_drew (Below.refl _ _)) f0, pw_cell_below (below_drew (Below.refl _ _)) g0, below_drew HB.out⟩
            refine takeY (oi := { dst := some 29, op := Op.move (Operand.tmp 3), type := 3, pos := "ref.go:19", after := #[], guard := none }) 0 (some 29) (v := ?v0_102) rfl rfl (by kernel_rfl) (by kernel_rfl) (by kernel_rfl) (fun _ _ _ h => h) (by kernel_rfl) ?hy102 hH0 ?_
            case hy102 => (intro w_ hSw; (try dsimp only at hSw); (obtain ⟨c0, c1, -⟩ := hSw; go_simp; (first | done | with_reducible rfl | rw [if_neg (by omega)])))
            simp only [Act.put, List.setIfInBounds_toArray, List.set_cons_zero, List.set_cons_succ]
            refine takeY (oi := { dst := some 30, op := Op.binOp BinOp.gtr 3 (Operand.tmp 29) (Operand.const (Value.int IntKind.i64 0)) 3, type := 4, pos := "ref.go:19", after := #[{ on := 0, ground := Ground.data }], guard := none }) 1 (some 30) (v := ?v1_103) rfl rfl (by kernel_rfl) (by kernel_rfl) (by kernel_rfl) (fun _ _ _ h => h) (by kernel_rfl) ?hy103 hH0 ?_
            case hy103 => (intro w_ hSw; (try dsimp only at hSw); (obtain ⟨c0, c1, -⟩ := hSw; go_simp; (first | done | with_reducible rfl | rw [if_neg (by omega)])))
            simp only [Act.put, List.setIfInBounds_toArray, List.set_cons_zero, List.set_cons_succ]
            refine takeY (oi := { dst := some 31, op := Op.move (Operand.tmp 30), type := 4, pos := "ref.go:19", after := #[{ on := 1, ground := Ground.data }], guard := none }) 2 (some 31) (v := ?v2_104) rfl rfl (by kernel_rfl) (by kernel_rfl) (by kernel_rfl) (fun _ _ _ h => h) (by kernel_rfl) ?hy104 hH0 ?_
            case hy104 => (intro w_ hSw; (try dsimp only at hSw); (obtain ⟨c0, c1, -⟩ := hSw; go_simp; (first | done | with_reducible rfl | rw [if_neg (by omega)])))
            simp only [Act.put, List.setIfInBounds_toArray, List.set_cons_zero, List.set_cons_succ]
            refine takeY (oi := { dst := some 32, op := Op.move (Operand.tmp 0), type := 22, pos := "ref.go:19", after := #[{ on := 2, ground := Ground.guard }], guard := some (2, true) }) 3 (some 32) (v := ?v3_105) rfl rfl (by kernel_rfl) (by kernel_rfl) (by kernel_rfl) (fun _ _ _ h => h) (by kernel_rfl) ?hy105 hH0 ?_
            case hy105 => (intro w_ hSw; (try dsimp only at hSw); (obtain ⟨c0, c1, -⟩ := hSw; go_simp; (first | done | with_reducible rfl | rw [if_neg (by omega)])))
            simp only [Act.put, List.setIfInBounds_toArray, List.set_cons_zero, List.set_cons_succ]
            refine takeY (oi := { dst := some 33, op := Op.move (Operand.tmp 3), type := 3, pos := "ref.go:19", after := #[{ on := 2, ground := Ground.guard }], guard := some (2, true) }) 4 (some 33) (v := ?v4_106) rfl rfl (by kernel_rfl) (by kernel_rfl) (by kernel_rfl) (fun _ _ _ h => h) (by kernel_rfl) ?hy106 hH0 ?_
            case hy106 => (intro w_ hSw; (try dsimp only at hSw); (obtain ⟨c0, c1, -⟩ := hSw; go_simp; (first | done | with_reducible rfl | rw [if_neg (by omega)])))
            simp only [Act.put, List.setIfInBounds_toArray, List.set_cons_zero, List.set_cons_succ]
            refine takeY (oi := { dst := some 34, op := Op.binOp BinOp.sub 3 (Operand.tmp 33) (Operand.const (Value.int IntKind.i64 1)) 3, type := 3, pos := "ref.go:19", after := #[{ on := 4, ground := Ground.data }, { on := 2, ground := Ground.guard }], guard := some (2, true) }) 5 (some 34) (v := ?v5_107) rfl rfl (by kernel_rfl) (by kernel_rfl) (by kernel_rfl) (fun _ _ _ h => h) (by kernel_rfl) ?hy107 hH0 ?_
            case hy107 => (intro w_ hSw; (try dsimp only at hSw); (obtain ⟨c0, c1, -⟩ := hSw; go_simp; (first | done | with_reducible rfl | rw [if_neg (by omega)])))
            simp only [Act.put, List.setIfInBounds_toArray, List.set_cons_zero, List.set_cons_succ]
            refine takeY (oi := { dst := some 35, op := Op.indexAddr 22 (Operand.tmp 32) (Operand.tmp 34), type := 0, pos := "ref.go:19", after := #[{ on := 3, ground := Ground.data }, { on := 5, ground := Ground.data }, { on := 2, ground := Ground.guard }], guard := some (2, true) }) 6 (some 35) (v := ?v6_108) rfl rfl (by kernel_rfl) (by kernel_rfl) (by kernel_rfl) (fun _ _ _ h => h) (by kernel_rfl) ?hy108 hH0 ?_
            case hy108 => (intro w_ hSw; (try dsimp only at hSw); (obtain ⟨c0, c1, -⟩ := hSw; go_simp; (first | done | with_reducible rfl | rw [if_neg (by omega)])))
            simp only [Act.put, List.setIfInBounds_toArray, List.set_cons_zero, List.set_cons_succ]
            refine takeY (oi := { dst := some 36, op := Op.fieldAddr 117 (Operand.tmp 35) 0, type := 0, pos := "ref.go:19", after := #[{ on := 6, ground := Ground.data }, { on := 2, ground := Ground.guard }], guard := some (2, true) }) 7 (some 36) (v := ?v7_109) rfl rfl (by kernel_rfl) (by kernel_rfl) (by kernel_rfl) (fun _ _ _ h => h) (by kernel_rfl) ?hy109 hH0 ?_
            case hy109 => (intro w_ hSw; (try dsimp only at hSw); (obtain ⟨c0, c1, -⟩ := hSw; go_simp; (first | done | with_reducible rfl | rw [if_neg (by omega)])))
            simp only [Act.put, List.setIfInBounds_toArray, List.set_cons_zero, List.set_cons_succ]
            refine takeY (oi := { dst := some 37, op := Op.load 9 (Operand.tmp 36), type := 9, pos := "ref.go:19", after := #[{ on := 7, ground := Ground.data }, { on := 2, ground := Ground.guard }], guard := some (2, true) }) 8 (some 37) (v := ?v8_110) rfl rfl (by kernel_rfl) (by kernel_rfl) (by kernel_rfl) (fun _ _ _ h => h) (by kernel_rfl) ?hy110 hH0 ?_
            case hy110 => (intro w_ hSw; (try dsimp only at hSw); (obtain ⟨c0, c1, -⟩ := hSw; go_simp; (first | done | with_reducible rfl | rw [if_neg (by omega)])))
            simp only [Act.put, List.setIfInBounds_toArray, List.set_cons_zero, List.set_cons_succ]
            refine takeY (oi := { dst := some 38, op := Op.move (Operand.tmp 0), type := 22, pos := "ref.go:19", after := #[{ on := 2, ground := Ground.guard }], guard := some (2, true) }) 9 (some 38) (v := ?v9_111) rfl rfl (by kernel_rfl) (by kernel_rfl) (by kernel_rfl) (fun _ _ _ h => h) (by kernel_rfl) ?hy111 hH0 ?_
            case hy111 => (intro w_ hSw; (try dsimp only at hSw); (obtain ⟨c0, c1, -⟩ := hSw; go_simp; (first | done | with_reducible rfl | rw [if_neg (by omega)])))
            simp only [Act.put, List.setIfInBounds_toArray, List.set_cons_zero, List.set_cons_succ]
            refine takeY (oi := { dst := some 39, op := Op.move (Operand.tmp 3), type := 3, pos := "ref.go:19", after := #[{ on := 2, ground := Ground.guard }], guard := some (2, true) }) 10 (some 39) (v := ?v10_112) rfl rfl (by kernel_rfl) (by kernel_rfl) (by kernel_rfl) (fun _ _ _ h => h) (by kernel_rfl) ?hy112 hH0 ?_
            case hy112 => (intro w_ hSw; (try dsimp only at hSw); (obtain ⟨c0, c1, -⟩ := hSw; go_simp; (first | done | with_reducible rfl | rw [if_neg (by omega)])))
            simp only [Act.put, List.setIfInBounds_toArray, List.set_cons_zero, List.set_cons_succ]
            refine takeY (oi := { dst := some 40, op := Op.indexAddr 22 (Operand.tmp 38) (Operand.tmp 39), type := 0, pos := "ref.go:19", after := #[{ on := 9, ground := Ground.data }, { on := 10, ground := Ground.data }, { on := 2, ground := Ground.guard }], guard := some (2, true) }) 11 (some 40) (v := ?v11_113) rfl rfl (by kernel_rfl) (by kernel_rfl) (by kernel_rfl) (fun _ _ _ h => h) (by kernel_rfl) ?hy113 hH0 ?_
            case hy113 => (intro w_ hSw; (try dsimp only at hSw); (obtain ⟨c0, c1, -⟩ := hSw; go_simp; (first | done | with_reducible rfl | rw [if_neg (by omega)])))
            simp only [Act.put, List.setIfInBounds_toArray, List.set_cons_zero, List.set_cons_succ]
            refine takeY (oi := { dst := some 41, op := Op.fieldAddr 117 (Operand.tmp 40) 0, type := 0, pos := "ref.go:19", after := #[{ on := 11, ground := Ground.data }, { on := 2, ground := Ground.guard }], guard := some (2, true) }) 12 (some 41) (v := ?v12_114) rfl rfl (by kernel_rfl) (by kernel_rfl) (by kernel_rfl) (fun _ _ _ h => h) (by kernel_rfl) ?hy114 hH0 ?_
            case hy114 => (intro w_ hSw; (try dsimp only at hSw); (obtain ⟨c0, c1, -⟩ := hSw; go_simp; (first | done | with_reducible rfl | rw [if_neg (by omega)])))
            simp only [Act.put, List.setIfInBounds_toArray, List.set_cons_zero, List.set_cons_succ]
            refine takeY (oi := { dst := some 42, op := Op.load 9 (Operand.tmp 41), type := 9, pos := "ref.go:19", after := #[{ on := 12, ground := Ground.data }, { on := 2, ground := Ground.guard }], guard := some (2, true) }) 13 (some 42) (v := ?v13_115) rfl rfl (by kernel_rfl) (by kernel_rfl) (by kernel_rfl) (fun _ _ _ h => h) (by kernel_rfl) ?hy115 hH0 ?_
            case hy115 => (intro w_ hSw; (try dsimp only at hSw); (obtain ⟨c0, c1, -⟩ := hSw; go_simp; (first | done | with_reducible rfl | rw [if_neg (by omega)])))
            simp only [Act.put, List.setIfInBounds_toArray, List.set_cons_zero, List.set_cons_succ]
            refine wpAnyH_ready (rs := [14]) (by kernel_rfl) (by simp) ?_
            refine AllReadyH.cons (o := { dst := some 43, op := Op.call { callee := Callee.value (Operand.func 106), args := #[Operand.tmp 37, Operand.tmp 42], argTypes := #[9, 9] }, type := 3, pos := "ref.go:19", after := #[{ on := 8, ground := Ground.data }, { on := 13, ground := Ground.data }, { on := 2, ground := Ground.chain }, { on := 2, ground := Ground.guard }], guard := some (2, true) }) rfl (fun K1 hK1 => ?_) AllReadyH.nil
            go_simp; refine (ref01_Compare_calls x0 y0 _ (by omega) (by omega)).mono ?_; rintro e w4 ⟨rfl, hb4⟩
            refine hK1.out _ _ ?hS116 (fun hH1 => ?_)
            case hS116 => ((try dsimp only); (exact ⟨pw_cell_below hb4 hH0.1, pw_cell_below hb4 hH0.2.1, keepB0 hb4 hH0.2.2⟩))
            clear hK1 K1
            (try clear hH0)
            (try simp only [Act.put, List.setIfInBounds_toArray, List.set_cons_zero, List.set_cons_succ])
            refine takeY (oi := { dst := some 44, op := Op.binOp BinOp.geq 3 (Operand.tmp 43) (Operand.const (Value.int IntKind.i64 0)) 3, type := 4, pos := "ref.go:19", after := #[{ on := 14, ground := Ground.data }, { on := 2, ground := Ground.guard }], guard := some (2, true) }) 15 (some 44) (v := ?v15_117) rfl rfl (by kernel_rfl) (by kernel_rfl) (by kernel_rfl) (fun _ _ _ h => h) (by kernel_rfl) ?hy117 hH1 ?_
            case hy117 => (intro w_ hSw; (try dsimp only at hSw); (obtain ⟨c0, c1, -⟩ := hSw; go_simp; (first | done | with_reducible rfl | rw [if_neg (by omega)])))
            simp only [Act.put, List.setIfInBounds_toArray, List.set_cons_zero, List.set_cons_succ]
            refine takeY (oi := { dst := some 45, op := Op.pick (Operand.tmp 31) (Operand.tmp 44) (Operand.const (Value.bool false)), type := 4, pos := "ref.go:19", after := #[{ on := 2, ground := Ground.data }, { on := 15, ground := Ground.data }], guard := none }) 16 (some 45) (v := ?v16_118) rfl rfl (by kernel_rfl) (by kernel_rfl) (by kernel_rfl) (fun _ _ _ h => h) (by kernel_rfl) ?hy118 hH1 ?_
            case hy118 => (intro w_ hSw; (try dsimp only at hSw); (obtain ⟨c0, c1, -⟩ := hSw; go_simp; (first | done | with_reducible rfl | rw [if_neg (by omega)])))
            simp only [Act.put, List.setIfInBounds_toArray, List.set_cons_zero, List.set_cons_succ]
            refine wpAnyH_done (by kernel_rfl) ?_ _
            have hEnd := hH1
            clear hH1
            have HB2 := Lib.hid hEnd.2.2
            go_wp2
            go_ret
            exact ⟨ret_bool HE.out.symm, HB2.out⟩
          | false =>
            have HS2 := Lib.hid (show propsFrom (prevAt l (m + 1)) (l.drop (m + 1)) = propsFrom (prevAt l (m + 1 + 1)) (l.drop (m + 1 + 1)) by rw [HS.out, hN, hV', HP.out]; have := of_decide_eq_false hO; simp; omega)
            go_wp2_with (first
              | (go_at_call 67; refine (ref01_Right_calls y0 _ (by omega)).mono ?_; rw [hN]; rintro e w2 ⟨rfl, hb2⟩; replace HB := Lib.hid (keepB0 hb2 HB.out); replace g0 := pw_cell_below hb2 g0; replace g1 := pw_cell_below hb2 g1; replace g2 := pw_cell_below hb2 g2; replace g3 := pw_cell_below hb2 g3; (try replace f0 := pw_cell_below hb2 f0); clear hb2)
              | (go_at_call 22; refine (ref02_Right_calls y1 y2 y3 _).mono ?_; rw [hV]; rintro e w3 ⟨rfl, hb2⟩; replace HB := Lib.hid (keepB0 hb2 HB.out); replace g0 := pw_cell_below hb2 g0; (try replace f0 := pw_cell_below hb2 f0); clear hb2))
            refine wp_region_held_drew (S := (fun w' => w'.cell? (ad.add (m * 4)) = some (.string x0) ∧ w'.cell? (ad.add ((m + 1) * 4)) = some (.string y0) ∧ Below w.heap.size w w')) (by kernel_rfl) ?hS201 (fun hH0 => ?_)
            case hS201 => exact ⟨pw_cell_below (below_drew (Below.refl _ _)) f0, pw_cell_below (below_drew (Below.refl _ _)) g0, below_drew HB.out⟩
            refine takeY (oi := { dst := some 29, op := Op.move (Operand.tmp 3), type := 3, pos := "ref.go:19", after := #[], guard := none }) 0 (some 29) (v := ?v0_202) rfl rfl (by kernel_rfl) (by kernel_rfl) (by kernel_rfl) (fun _ _ _ h => h) (by kernel_rfl) ?hy202 hH0 ?_
            case hy202 => (intro w_ hSw; (try dsimp only at hSw); (obtain ⟨c0, c1, -⟩ := hSw; go_simp; (first | done | with_reducible rfl | rw [if_neg (by omega)])))
            simp only [Act.put, List.setIfInBounds_toArray, List.set_cons_zero, List.set_cons_succ]
            refine takeY (oi := { dst := some 30, op := Op.binOp BinOp.gtr 3 (Operand.tmp 29) (Operand.const (Value.int IntKind.i64 0)) 3, type := 4, pos := "ref.go:19", after := #[{ on := 0, ground := Ground.data }], guard := none }) 1 (some 30) (v := ?v1_203) rfl rfl (by kernel_rfl) (by kernel_rfl) (by kernel_rfl) (fun _ _ _ h => h) (by kernel_rfl) ?hy203 hH0 ?_
            case hy203 => (intro w_ hSw; (try dsimp only at hSw); (obtain ⟨c0, c1, -⟩ := hSw; go_simp; (first | done | with_reducible rfl | rw [if_neg (by omega)])))
            simp only [Act.put, List.setIfInBounds_toArray, List.set_cons_zero, List.set_cons_succ]
            refine takeY (oi := { dst := some 31, op := Op.move (Operand.tmp 30), type := 4, pos := "ref.go:19", after := #[{ on := 1, ground := Ground.data }], guard := none }) 2 (some 31) (v := ?v2_204) rfl rfl (by kernel_rfl) (by kernel_rfl) (by kernel_rfl) (fun _ _ _ h => h) (by kernel_rfl) ?hy204 hH0 ?_
            case hy204 => (intro w_ hSw; (try dsimp only at hSw); (obtain ⟨c0, c1, -⟩ := hSw; go_simp; (first | done | with_reducible rfl | rw [if_neg (by omega)])))
            simp only [Act.put, List.setIfInBounds_toArray, List.set_cons_zero, List.set_cons_succ]
            refine takeY (oi := { dst := some 32, op := Op.move (Operand.tmp 0), type := 22, pos := "ref.go:19", after := #[{ on := 2, ground := Ground.guard }], guard := some (2, true) }) 3 (some 32) (v := ?v3_205) rfl rfl (by kernel_rfl) (by kernel_rfl) (by kernel_rfl) (fun _ _ _ h => h) (by kernel_rfl) ?hy205 hH0 ?_
            case hy205 => (intro w_ hSw; (try dsimp only at hSw); (obtain ⟨c0, c1, -⟩ := hSw; go_simp; (first | done | with_reducible rfl | rw [if_neg (by omega)])))
            simp only [Act.put, List.setIfInBounds_toArray, List.set_cons_zero, List.set_cons_succ]
            refine takeY (oi := { dst := some 33, op := Op.move (Operand.tmp 3), type := 3, pos := "ref.go:19", after := #[{ on := 2, ground := Ground.guard }], guard := some (2, true) }) 4 (some 33) (v := ?v4_206) rfl rfl (by kernel_rfl) (by kernel_rfl) (by kernel_rfl) (fun _ _ _ h => h) (by kernel_rfl) ?hy206 hH0 ?_
            case hy206 => (intro w_ hSw; (try dsimp only at hSw); (obtain ⟨c0, c1, -⟩ := hSw; go_simp; (first | done | with_reducible rfl | rw [if_neg (by omega)])))
            simp only [Act.put, List.setIfInBounds_toArray, List.set_cons_zero, List.set_cons_succ]
            refine takeY (oi := { dst := some 34, op := Op.binOp BinOp.sub 3 (Operand.tmp 33) (Operand.const (Value.int IntKind.i64 1)) 3, type := 3, pos := "ref.go:19", after := #[{ on := 4, ground := Ground.data }, { on := 2, ground := Ground.guard }], guard := some (2, true) }) 5 (some 34) (v := ?v5_207) rfl rfl (by kernel_rfl) (by kernel_rfl) (by kernel_rfl) (fun _ _ _ h => h) (by kernel_rfl) ?hy207 hH0 ?_
            case hy207 => (intro w_ hSw; (try dsimp only at hSw); (obtain ⟨c0, c1, -⟩ := hSw; go_simp; (first | done | with_reducible rfl | rw [if_neg (by omega)])))
            simp only [Act.put, List.setIfInBounds_toArray, List.set_cons_zero, List.set_cons_succ]
            refine takeY (oi := { dst := some 35, op := Op.indexAddr 22 (Operand.tmp 32) (Operand.tmp 34), type := 0, pos := "ref.go:19", after := #[{ on := 3, ground := Ground.data }, { on := 5, ground := Ground.data }, { on := 2, ground := Ground.guard }], guard := some (2, true) }) 6 (some 35) (v := ?v6_208) rfl rfl (by kernel_rfl) (by kernel_rfl) (by kernel_rfl) (fun _ _ _ h => h) (by kernel_rfl) ?hy208 hH0 ?_
            case hy208 => (intro w_ hSw; (try dsimp only at hSw); (obtain ⟨c0, c1, -⟩ := hSw; go_simp; (first | done | with_reducible rfl | rw [if_neg (by omega)])))
            simp only [Act.put, List.setIfInBounds_toArray, List.set_cons_zero, List.set_cons_succ]
            refine takeY (oi := { dst := some 36, op := Op.fieldAddr 117 (Operand.tmp 35) 0, type := 0, pos := "ref.go:19", after := #[{ on := 6, ground := Ground.data }, { on := 2, ground := Ground.guard }], guard := some (2, true) }) 7 (some 36) (v := ?v7_209) rfl rfl (by kernel_rfl) (by kernel_rfl) (by kernel_rfl) (fun _ _ _ h => h) (by kernel_rfl) ?hy209 hH0 ?_
            case hy209 => (intro w_ hSw; (try dsimp only at hSw); (obtain ⟨c0, c1, -⟩ := hSw; go_simp; (first | done | with_reducible rfl | rw [if_neg (by omega)])))
            simp only [Act.put, List.setIfInBounds_toArray, List.set_cons_zero, List.set_cons_succ]
            refine takeY (oi := { dst := some 37, op := Op.load 9 (Operand.tmp 36), type := 9, pos := "ref.go:19", after := #[{ on := 7, ground := Ground.data }, { on := 2, ground := Ground.guard }], guard := some (2, true) }) 8 (some 37) (v := ?v8_210) rfl rfl (by kernel_rfl) (by kernel_rfl) (by kernel_rfl) (fun _ _ _ h => h) (by kernel_rfl) ?hy210 hH0 ?_
            case hy210 => (intro w_ hSw; (try dsimp only at hSw); (obtain ⟨c0, c1, -⟩ := hSw; go_simp; (first | done | with_reducible rfl | rw [if_neg (by omega)])))
            simp only [Act.put, List.setIfInBounds_toArray, List.set_cons_zero, List.set_cons_succ]
            refine takeY (oi := { dst := some 38, op := Op.move (Operand.tmp 0), type := 22, pos := "ref.go:19", after := #[{ on := 2, ground := Ground.guard }], guard := some (2, true) }) 9 (some 38) (v := ?v9_211) rfl rfl (by kernel_rfl) (by kernel_rfl) (by kernel_rfl) (fun _ _ _ h => h) (by kernel_rfl) ?hy211 hH0 ?_
            case hy211 => (intro w_ hSw; (try dsimp only at hSw); (obtain ⟨c0, c1, -⟩ := hSw; go_simp; (first | done | with_reducible rfl | rw [if_neg (by omega)])))
            simp only [Act.put, List.setIfInBounds_toArray, List.set_cons_zero, List.set_cons_succ]
            refine takeY (oi := { dst := some 39, op := Op.move (Operand.tmp 3), type := 3, pos := "ref.go:19", after := #[{ on := 2, ground := Ground.guard }], guard := some (2, true) }) 10 (some 39) (v := ?v10_212) rfl rfl (by kernel_rfl) (by kernel_rfl) (by kernel_rfl) (fun _ _ _ h => h) (by kernel_rfl) ?hy212 hH0 ?_
            case hy212 => (intro w_ hSw; (try dsimp only at hSw); (obtain ⟨c0, c1, -⟩ := hSw; go_simp; (first | done | with_reducible rfl | rw [if_neg (by omega)])))
            simp only [Act.put, List.setIfInBounds_toArray, List.set_cons_zero, List.set_cons_succ]
            refine takeY (oi := { dst := some 40, op := Op.indexAddr 22 (Operand.tmp 38) (Operand.tmp 39), type := 0, pos := "ref.go:19", after := #[{ on := 9, ground := Ground.data }, { on := 10, ground := Ground.data }, { on := 2, ground := Ground.guard }], guard := some (2, true) }) 11 (some 40) (v := ?v11_213) rfl rfl (by kernel_rfl) (by kernel_rfl) (by kernel_rfl) (fun _ _ _ h => h) (by kernel_rfl) ?hy213 hH0 ?_
            case hy213 => (intro w_ hSw; (try dsimp only at hSw); (obtain ⟨c0, c1, -⟩ := hSw; go_simp; (first | done | with_reducible rfl | rw [if_neg (by omega)])))
            simp only [Act.put, List.setIfInBounds_toArray, List.set_cons_zero, List.set_cons_succ]
            refine takeY (oi := { dst := some 41, op := Op.fieldAddr 117 (Operand.tmp 40) 0, type := 0, pos := "ref.go:19", after := #[{ on := 11, ground := Ground.data }, { on := 2, ground := Ground.guard }], guard := some (2, true) }) 12 (some 41) (v := ?v12_214) rfl rfl (by kernel_rfl) (by kernel_rfl) (by kernel_rfl) (fun _ _ _ h => h) (by kernel_rfl) ?hy214 hH0 ?_
            case hy214 => (intro w_ hSw; (try dsimp only at hSw); (obtain ⟨c0, c1, -⟩ := hSw; go_simp; (first | done | with_reducible rfl | rw [if_neg (by omega)])))
            simp only [Act.put, List.setIfInBounds_toArray, List.set_cons_zero, List.set_cons_succ]
            refine takeY (oi := { dst := some 42, op := Op.load 9 (Operand.tmp 41), type := 9, pos := "ref.go:19", after := #[{ on := 12, ground := Ground.data }, { on := 2, ground := Ground.guard }], guard := some (2, true) }) 13 (some 42) (v := ?v13_215) rfl rfl (by kernel_rfl) (by kernel_rfl) (by kernel_rfl) (fun _ _ _ h => h) (by kernel_rfl) ?hy215 hH0 ?_
            case hy215 => (intro w_ hSw; (try dsimp only at hSw); (obtain ⟨c0, c1, -⟩ := hSw; go_simp; (first | done | with_reducible rfl | rw [if_neg (by omega)])))
            simp only [Act.put, List.setIfInBounds_toArray, List.set_cons_zero, List.set_cons_succ]
            refine wpAnyH_ready (rs := [14]) (by kernel_rfl) (by simp) ?_
            refine AllReadyH.cons (o := { dst := some 43, op := Op.call { callee := Callee.value (Operand.func 106), args := #[Operand.tmp 37, Operand.tmp 42], argTypes := #[9, 9] }, type := 3, pos := "ref.go:19", after := #[{ on := 8, ground := Ground.data }, { on := 13, ground := Ground.data }, { on := 2, ground := Ground.chain }, { on := 2, ground := Ground.guard }], guard := some (2, true) }) rfl (fun K1 hK1 => ?_) AllReadyH.nil
            go_simp; refine (ref01_Compare_calls x0 y0 _ (by omega) (by omega)).mono ?_; rintro e w4 ⟨rfl, hb4⟩
            refine hK1.out _ _ ?hS216 (fun hH1 => ?_)
            case hS216 => ((try dsimp only); (exact ⟨pw_cell_below hb4 hH0.1, pw_cell_below hb4 hH0.2.1, keepB0 hb4 hH0.2.2⟩))
            clear hK1 K1
            (try clear hH0)
            (try simp only [Act.put, List.setIfInBounds_toArray, List.set_cons_zero, List.set_cons_succ])
            refine takeY (oi := { dst := some 44, op := Op.binOp BinOp.geq 3 (Operand.tmp 43) (Operand.const (Value.int IntKind.i64 0)) 3, type := 4, pos := "ref.go:19", after := #[{ on := 14, ground := Ground.data }, { on := 2, ground := Ground.guard }], guard := some (2, true) }) 15 (some 44) (v := ?v15_217) rfl rfl (by kernel_rfl) (by kernel_rfl) (by kernel_rfl) (fun _ _ _ h => h) (by kernel_rfl) ?hy217 hH1 ?_
            case hy217 => (intro w_ hSw; (try dsimp only at hSw); (obtain ⟨c0, c1, -⟩ := hSw; go_simp; (first | done | with_reducible rfl | rw [if_neg (by omega)])))
            simp only [Act.put, List.setIfInBounds_toArray, List.set_cons_zero, List.set_cons_succ]
            refine takeY (oi := { dst := some 45, op := Op.pick (Operand.tmp 31) (Operand.tmp 44) (Operand.const (Value.bool false)), type := 4, pos := "ref.go:19", after := #[{ on := 2, ground := Ground.data }, { on := 15, ground := Ground.data }], guard := none }) 16 (some 45) (v := ?v16_218) rfl rfl (by kernel_rfl) (by kernel_rfl) (by kernel_rfl) (fun _ _ _ h => h) (by kernel_rfl) ?hy218 hH1 ?_
            case hy218 => (intro w_ hSw; (try dsimp only at hSw); (obtain ⟨c0, c1, -⟩ := hSw; go_simp; (first | done | with_reducible rfl | rw [if_neg (by omega)])))
            simp only [Act.put, List.setIfInBounds_toArray, List.set_cons_zero, List.set_cons_succ]
            refine wpAnyH_done (by kernel_rfl) ?_ _
            have hEnd := hH1
            clear hH1
            have HB2 := Lib.hid hEnd.2.2
            go_wp2
            go_roundw
            case rel => exact ⟨m + 1 + 1, by omega, by go_num, HB2, Lib.hid (by rw [← HS2.out]; exact HI.out)⟩
            case measure => simp [intOf]; omega
      · have hlt2 : ¬ (k : Int) < (l.length : Int) := by omega
        go_wp2
        go_ret
        refine ⟨ret_bool ?_, HB.out⟩
        have := HI.out
        rw [List.drop_eq_nil_of_le (by omega)] at this
        unfold propsRight
        rw [← this, propsFrom, Bool.true_and]
        exact (decide_eq_true h16).symm
  · have h16' : (16 : Int) < (l.length : Int) := by omega
    go_enter Try.func75, Try.ntmps75
    go_wp2
    go_ret
    exact ⟨ret_bool (by unfold propsRight; rw [decide_eq_false h16, Bool.and_false]), Below.refl _ _⟩

set_option maxRecDepth 100000 in
set_option maxHeartbeats 4000000 in
theorem ref16_Check_calls (label : ByteArray) (A B : Option Addr) (c d : Nat) (ps : List SPrp) (ids : List Int) (w : World) (hl : label.size ≤ 2000000) (hp : kPrp.C w A ps.length ps) (hf : fits ps) (hi : (Kd.int .i64).C w B ids.length ids) :
    Calls Try.prog 36 #[.string label, .slice A ps.length c, .slice B ids.length d] w fun e w' => e = .returned (.int .i64 (checkN label ps ids)) ∧ Below w.heap.size w w' := by
  have hm := Kd.C_max hi
  have HP := Lib.hid hp; clear hp
  have HX := Lib.hid hi; clear hi
  have HF := Lib.hid hf; clear hf
  go_enter Try.func36, Try.ntmps36
  go_wp2
  go_loopw [7] (fun v7 wr => ∃ k : Nat, k ≤ ids.length ∧ v7 = .int .i64 k ∧ wr = w ∧ Hid ((ids.drop k).all idOk = ids.all idOk)) (fun v7 _ => ids.length - (intOf v7).toNat)
  case atStart => exact ⟨0, Nat.zero_le _, rfl, rfl, Lib.hid rfl⟩
  case round =>
    obtain ⟨k, hk, rfl, rfl, HI⟩ := hrel
    by_cases hlt : k < ids.length
    · have hlt2 : (k : Int) < (ids.length : Int) := by omega
      have HD := Lib.hid (drop_cons ids k 0 hlt)
      obtain ⟨ad, rfl, g0⟩ := Kd.at_int HX.out (k : Int) (by omega) (by omega)
      simp only [Int.toNat_natCast, rd] at g0
      generalize ids.getD k 0 = x at HD g0
      cases hok : idOk x with
      | true =>
        have hx : 0 ≤ x ∧ x < 1099511627776 := by simpa [idOk] using hok
        obtain ⟨hx0, hx1⟩ := hx
        have hx2 : ¬ x < 0 := by omega
        have hx3 : ¬ 1099511627776 ≤ x := by omega
        go_wp2
        go_roundw
        case rel => exact ⟨k + 1, by omega, by go_num, by trivial, Lib.hid (by rw [← HI.out, HD.out, List.all_cons, hok, Bool.true_and])⟩
        case measure => simp [intOf]; omega
      | false =>
        have HE : Hid (checkN label ps ids = 2) := Lib.hid (by unfold checkN; rw [← HI.out, HD.out, List.all_cons, hok]; rfl)
        by_cases hx : x < 0
        · go_wp2
          go_ret
          exact ⟨ret_int HE.out.symm, Below.refl _ _⟩
        · have hx3 : 1099511627776 ≤ x := by
            have : ¬ (0 ≤ x ∧ x < 1099511627776) := fun h => by rw [idOk, decide_eq_true h.1, decide_eq_true h.2] at hok; cases hok
            omega
          go_wp2
          go_ret
          exact ⟨ret_int HE.out.symm, Below.refl _ _⟩
    · have hlt2 : ¬ (k : Int) < (ids.length : Int) := by omega
      have HA : Hid (ids.all idOk = true) := Lib.hid (by rw [← HI.out, List.drop_eq_nil_of_le (by omega)]; rfl)
      cases h2 : nameRight label with
      | false =>
        go_wp2_with (go_at_call 67; refine (ref01_Right_calls label _ hl).mono ?_; rw [h2]; rintro e w2 ⟨rfl, hb2⟩)
        go_ret
        exact ⟨ret_int (by unfold checkN; rw [HA.out, h2]; rfl), hb2⟩
      | true =>
        cases h3 : propsRight ps with
        | false =>
          go_wp2_with (first
            | (go_at_call 67; refine (ref01_Right_calls label _ hl).mono ?_; rw [h2]; rintro e w2 ⟨rfl, hb2⟩)
            | (go_at_call 75; refine (ref03_Right_calls A c ps _ (Kd.C_below HP.out hb2) HF.out).mono ?_; rw [h3]; rintro e w3 ⟨rfl, hb3⟩))
          go_ret
          exact ⟨ret_int (by unfold checkN; rw [HA.out, h2, h3]; rfl), keepB0 hb3 hb2⟩
        | true =>
          go_wp2_with (first
            | (go_at_call 67; refine (ref01_Right_calls label _ hl).mono ?_; rw [h2]; rintro e w2 ⟨rfl, hb2⟩)
            | (go_at_call 75; refine (ref03_Right_calls A c ps _ (Kd.C_below HP.out hb2) HF.out).mono ?_; rw [h3]; rintro e w3 ⟨rfl, hb3⟩))
          go_ret
          exact ⟨ret_int (by unfold checkN; rw [HA.out, h2, h3]; rfl), keepB0 hb3 hb2⟩
end Go.Proofs.Ytonbnlfijmapfaa
/- The document's graph in memory: two rows behind a pointer; what is kept of it. No condition. -/
namespace Go.Proofs.Ytonbnlfijmapfaa
open Go.RowKit Go.Shelf Go.Proofs.YtonbnlfijmapfaaW.PrintWords
set_option linter.unusedVariables false
set_option linter.unusedSimpArgs false

theorem But.set {S : Nat → Prop} (w : World) (p : Addr) (u : Value) (hS : S p.block) : But S w (w.setCell p u) :=
  ⟨rfl, rfl, rfl, by simp, fun k _ hn => Below.heap_setCell w p u k (fun e => hn (e ▸ hS))⟩
theorem below_none {W w1 : World} (h : W.grownBy w1 none) : Below W.heap.size W w1 := (But.of_none (fun _ => False) h).low (fun _ h => h.elim) (Nat.le_refl _)
theorem F_but {α : Type} {d : Kd α} {S ok : Nat → Prop} {W W1 : World} {A : Option Addr} {n : Nat} {xs : List α} (h : Kd.F d W ok A n xs) (hb : But S W W1) (hS : ∀ k, ok k → ¬ S k) : Kd.F d W1 ok A n xs :=
  Kd.F_step h (fun k hk hlt => hb.block k hlt (hS k hk))
/-- At r lies the document's graph; what it leads to lies in ok. -/
structure RefAt (W : World) (ok : Nat → Prop) (r : Nat) (A : Option Addr) (c : Nat) (B : Option Addr) (d : Nat) (vs : List SVert) (es : List SEdg) : Prop where
  nok : ¬ ok r
  blk : Blk W r #[.slice A vs.length c, .slice B es.length d] 97
  lv : vs.length ≤ c
  le : es.length ≤ d
  vr : Kd.F kVert W ok A vs.length vs
  er : Kd.F kEdg W ok B es.length es
section
variable {W W' : World} {ok ok' : Nat → Prop} {r c d : Nat} {A B : Option Addr} {vs : List SVert} {es : List SEdg}
theorem RefAt.but {S : Nat → Prop} (h : RefAt W ok r A c B d vs es) (hb : But S W W') (hS : ∀ k, ok k → ¬ S k) (hr : ¬ S r) : RefAt W' ok r A c B d vs es :=
  ⟨h.nok, hb.blk h.blk hr, h.lv, h.le, F_but h.vr hb hS, F_but h.er hb hS⟩
theorem RefAt.below (h : RefAt W ok r A c B d vs es) (hb : Below W.heap.size W W') : RefAt W' ok r A c B d vs es :=
  h.but (But.of_below (fun _ => False) hb) (fun _ _ h => h) (fun h => h)
theorem RefAt.mono (h : RefAt W ok r A c B d vs es) (hk : ∀ k, ok k → ok' k) (hr : ¬ ok' r) : RefAt W ok' r A c B d vs es :=
  ⟨hr, h.blk, h.lv, h.le, Kd.F_mono h.vr hk, Kd.F_mono h.er hk⟩
theorem RefAt.bound (h : RefAt W ok r A c B d vs es) : RefAt W (fun k => ok k ∧ k < W.heap.size) r A c B d vs es :=
  ⟨fun e => h.nok e.1, h.blk, h.lv, h.le, Kd.F_bound h.vr, Kd.F_bound h.er⟩
theorem RefAt.lt (h : RefAt W ok r A c B d vs es) : r < W.heap.size := blk_lt h.blk
end

/-! ### places -/
def placeK {α : Type} (key : α → Int) (xs : List α) (n : Int) : Int := match xs.findIdx? (fun x => key x == n) with | some i => (i : Int) | none => -1
section
variable {α : Type} {key : α → Int} {xs : List α} {n : Int}
theorem placeK_at {k : Nat} {z : α} (hk : k < xs.length) (h0 : ∀ x ∈ xs.take k, key x ≠ n) (h1 : key (xs.getD k z) = n) : placeK key xs n = k := by
  have : xs.findIdx? (fun x => key x == n) = some k := by
    rw [List.findIdx?_eq_some_iff_getElem]
    refine ⟨hk, ?_, fun j hj => ?_⟩
    · rw [List.getD_eq_getElem?_getD, List.getElem?_eq_getElem hk] at h1
      simpa using h1
    · have := h0 (xs[j]'(by omega)) (List.mem_take_iff_getElem.2 ⟨j, by omega, rfl⟩)
      simpa using this
  simp [placeK, this]
theorem placeK_none (h0 : ∀ x ∈ xs, key x ≠ n) : placeK key xs n = -1 := by
  have : xs.findIdx? (fun x => key x == n) = none := by
    rw [List.findIdx?_eq_none_iff]
    intro x hx
    have := h0 x hx
    simpa using this
  simp [placeK, this]
theorem placeK_found : (0 ≤ placeK key xs n) ↔ (findK key xs n).isSome = true := by
  unfold placeK findK
  cases h : xs.findIdx? (fun x => key x == n) with
  | none =>
    rw [List.findIdx?_eq_none_iff] at h
    have : xs.find? (fun x => key x == n) = none := by rw [List.find?_eq_none]; intro x hx; simp [h x hx]
    simp [this]
  | some i =>
    have h2 := List.findIdx?_eq_some_iff_getElem.1 h
    obtain ⟨hi, h3, _⟩ := h2
    have : (xs.find? (fun x => key x == n)).isSome = true := by rw [List.find?_isSome]; exact ⟨_, List.getElem_mem hi, h3⟩
    simp [this]
/-- Where a thing is laid. -/
theorem insK_place {x : α} : ∀ (xs : List α) (k : Nat), k ≤ xs.length → (∀ y ∈ xs.take k, key y ≤ key x) → (∀ z, k < xs.length → key x < key (xs.getD k z)) → insK key x xs = xs.take k ++ x :: xs.drop k
  | [], k, hk, _, _ => by simp [insK]
  | y :: r, 0, _, _, h2 => by have := h2 y (by simp); simp at this; simp [insK, this]
  | y :: r, k + 1, hk, h1, h2 => by
    have hy := h1 y (by simp)
    rw [insK, if_neg (by omega), List.take_succ_cons, List.drop_succ_cons, List.cons_append, insK_place r k (by simpa using hk) (fun z hz => h1 z (by simp [hz])) (fun z hz => by have := h2 z (by simpa using hz); simpa using this)]
end

/-! ### cuts -/
theorem cut_to (t e : TypeId) {i : TypeInfo} (ht : Try.prog.underlying t = some (.slice e)) (hi : Try.prog.info? e = some i) {α : Type} (d : Kd α) (hsz : i.size = d.sz) (A : Option Addr) (c m : Nat) (xs : List α) (hm : m ≤ xs.length) (hc : xs.length ≤ c) :
    ∃ A1, (∀ W : World, (Instr.slice t (.slice A xs.length c) none (some (.int .i64 (m : Int))) none).run Try.prog W = .ok (.slice A1 m c) W) ∧ ∀ W ok, Kd.F d W ok A xs.length xs → Kd.F d W ok A1 m (xs.take m) := by
  refine ⟨if c = 0 then A else A.map (·.add (0 * d.sz)), fun W => ?_, fun W ok h => ?_⟩
  · have hel : Try.prog.elem t = e := by simp [Program.elem, ht]
    have hu : Try.prog.underlying t = some (.slice (Try.prog.elem t)) := by rw [hel]; exact ht
    rw [run_slice_h W t A xs.length c hu .i64 (m : Int) (Int.natCast_nonneg _) (by omega), hel]
    simp [sizeOf, typeInfo, hi, hsz, sliced, Result.andThen]
  · have h2 := Kd.F_mid (lo := 0) (hi := m) h (by omega) hm hc
    simp only [List.drop_zero] at h2
    rw [List.length_take, Nat.min_eq_left hm] at h2
    exact h2
theorem cut_from (t e : TypeId) {i : TypeInfo} (ht : Try.prog.underlying t = some (.slice e)) (hi : Try.prog.info? e = some i) {α : Type} (d : Kd α) (hsz : i.size = d.sz) (A : Option Addr) (c m : Nat) (xs : List α) (hm : m ≤ xs.length) (hc : xs.length ≤ c) :
    ∃ A1, (∀ W : World, (Instr.slice t (.slice A xs.length c) (some (.int .i64 (m : Int))) none none).run Try.prog W = .ok (.slice A1 (xs.length - m) (c - m)) W) ∧ ∀ W ok, Kd.F d W ok A xs.length xs → Kd.F d W ok A1 (xs.length - m) (xs.drop m) := by
  refine ⟨if c = m then A else A.map (·.add (m * d.sz)), fun W => ?_, fun W ok h => ?_⟩
  · have hel : Try.prog.elem t = e := by simp [Program.elem, ht]
    have hu : Try.prog.underlying t = some (.slice (Try.prog.elem t)) := by rw [hel]; exact ht
    rw [run_slice_l W t A xs.length c hu .i64 (m : Int) (Int.natCast_nonneg _) (by omega), hel]
    simp [sizeOf, typeInfo, hi, hsz, sliced, Result.andThen]
  · have h2 := Kd.F_cut (m := m) h hm hc
    rwa [List.length_drop] at h2

/-! ### appends onto rows that share -/
section
variable {P : Program} {ops : Array Oper} {rest : List Oper} {o : Oper} {a : Act} {Q : Exit → Act → World → Prop} {α : Type} {d : Kd α}
theorem appN_rows {base e : Nat} {W : World} {ok : Nat → Prop} {v : Value} {xs : List α} (HO : Kd.N d e W base ok v xs) {z : Value} {bytes : Nat} (hinfo : (P.info? e).map (fun i => (i.zero, i.size, i.bytes)) = some (some z, d.sz, bytes)) {t : TypeId} (ht : P.underlying t = some (.slice e))
    {ys : List α} {A : Option Addr} {m c : Nat} {okp : Nat → Prop} (HR : Kd.F d W okp A m ys) (hokp : ∀ k, okp k → ok k ∧ some k ≠ v.ownBlock) (hfresh : ∀ k, W.heap.size ≤ k → ok k) (hbase : base ≤ W.heap.size) (hl : (xs.length + m) * bytes ≤ 140737488355328)
    (hz : z.cells.size = d.sz) (hs0 : 0 < d.sz) (hb0 : 0 < bytes) {s x : Operand} (hgd : o.guard = none) (ho : o.op = .call { callee := .builtin .append, args := #[s, x], argTypes := #[t, t] }) (hs : a.eval s = v) (hx : a.eval x = .slice A m c)
    (h : ∀ v1 w1, Kd.N d e w1 base ok v1 (xs ++ ys) → Below base W w1 → W.grownBy w1 v.ownBlock → wpList P ops Q rest (a.put o.dst v1) w1) : wpList P ops Q (o :: rest) a W :=
  Kd.N_append_rows d (w0 := W) base hgd s x t e z bytes ho ht hinfo hz hs0 hb0 v xs ys A m c ok okp hs hx HO HR hokp hfresh (Below.refl _ _) hbase hl (fun v1 w1 h1 h2 h3 _ => h v1 w1 h1 h2 h3)
theorem appN_one {base e : Nat} {W : World} {ok : Nat → Prop} {v : Value} {xs : List α} (HO : Kd.N d e W base ok v xs) {z : Value} {bytes : Nat} (hinfo : (P.info? e).map (fun i => (i.zero, i.size, i.bytes)) = some (some z, d.sz, bytes)) {t : TypeId} (ht : P.underlying t = some (.slice e))
    {p : α} {cs : List Value} {okp : Nat → Prop} (hp : Kd.FK d W okp p cs) (hokp : ∀ k, okp k → ok k ∧ some k ≠ v.ownBlock) (hfresh : ∀ k, W.heap.size ≤ k → ok k) (hbase : base ≤ W.heap.size) (hl : (xs.length + 1) * bytes ≤ 140737488355328)
    (hz : z.cells.size = d.sz) (hs0 : 0 < d.sz) (hb0 : 0 < bytes) {s x : Operand} (hgd : o.guard = none) (ho : o.op = .call { callee := .builtin .append, args := #[s, x], argTypes := #[t, t] }) (hs : a.eval s = v) (hx : a.eval x = .slice (some ⟨W.heap.size, 0, none⟩) 1 1)
    (h : ∀ v1 w1, Kd.N d e w1 base ok v1 (xs ++ [p]) → Below base W w1 → W.grownBy w1 v.ownBlock → wpList P ops Q rest (a.put o.dst v1) w1) : wpList P ops Q (o :: rest) a (W.alloc (.cells cs.toArray e)) :=
  Kd.N_append d (w0 := W) base hgd s x t e z bytes ho ht hinfo hz hs0 hb0 v xs p cs ok okp hs hx hp hokp hfresh HO (Below.refl _ _) hbase hl (fun v1 w1 h1 h2 h3 _ => h v1 w1 h1 h2 h3)
end
theorem FK_Vert {W : World} {ok : Nat → Prop} {x : SVert} {A : Option Addr} {c : Nat} (hl : x.f2.length ≤ c) (h : Kd.F kPrp W ok A x.f2.length x.f2) : Kd.FK kVert W ok x [.int .i64 x.f0, .string x.f1, .slice A x.f2.length c] := fun W' hW => kVert_mk W' x hl (h W' hW)
theorem FK_Edg {W : World} {ok : Nat → Prop} {x : SEdg} {A : Option Addr} {c : Nat} (hl : x.f4.length ≤ c) (h : Kd.F kPrp W ok A x.f4.length x.f4) : Kd.FK kEdg W ok x [.int .i64 x.f0, .string x.f1, .int .i64 x.f2, .int .i64 x.f3, .slice A x.f4.length c] := fun W' hW => kEdg_mk W' x hl (h W' hW)
end Go.Proofs.Ytonbnlfijmapfaa
/- A walk in memory; walk.Pay. No condition but on sizes. -/
namespace Go.Proofs.Ytonbnlfijmapfaa
open Go.RowKit Go.Shelf Go.Proofs.YtonbnlfijmapfaaW.PrintWords
set_option linter.unusedVariables false
set_option linter.unusedSimpArgs false

theorem But.rowT {S : Nat → Prop} {w w1 : World} {α : Type} {d : Kd α} {e base : Nat} {ok : Nat → Prop} {v : Value} {xs : List α} (h : But S w w1) (hr : d.R e w base ok v xs) (hn : ∀ k, S k → ∀ q, q ∈ e :: d.E → ∀ cells, w.heap[k]? ≠ some (.cells cells q (0, 0))) : d.R e w1 base ok v xs :=
  Kd.R_mono (Kd.R_step (Kd.R_bound hr) (fun k hk hl => h.block k hl (fun hs => by obtain ⟨_, _, _, q, hq, cells, hc⟩ := hk; exact hn k hs q hq cells hc))) (fun _ hk => hk.1)
section
variable {W W' : World} {B g m1 m2 : Nat} {vs : List SVert} {es : List SEdg}
/-- A graph beside a block of another kind that turns. -/
theorem GraphAt.typed (h : GraphAt W B g m1 m2 vs es) {b t : Nat} {cs : Array Value} (hk : Blk W b cs t) (ht1 : 117 ≠ t) (ht2 : 135 ≠ t) (hb : But (fun k => k = b) W W') : GraphAt W' B g m1 m2 vs es := by
  have hr : ∀ k, k = b → ∀ q, q ∈ 117 :: kPrp.E → ∀ cells, W.heap[k]? ≠ some (.cells cells q (0, 0)) := by
    intro k e q hq cells hc
    rw [e] at hc
    rw [show W.heap[b]? = some (.cells cs t (0, 0)) from hk] at hc
    injection hc with hc; injection hc with _ hc _
    have : q = 117 := by simpa [show kPrp.E = [] from rfl] using hq
    exact ht1 (by rw [← this]; exact hc.symm)
  have hm : ∀ {k : Nat} {l : List (Int × Value)}, IMap W Try.prog 3 k l → k ≠ b := by
    intro k l hi e
    obtain ⟨es, clock, ho⟩ := hi.isObj
    rw [e, show W.heap[b]? = some (.cells cs t (0, 0)) from hk] at ho
    cases ho
  refine ⟨hb.blk h.blk (fun e => ?_), h.low, h.ne, ?_, ?_⟩
  · have h2 := h.blk
    rw [show g = b from e] at h2
    have := (show W.heap[b]? = _ from hk).symm.trans h2
    injection this with this; injection this with _ this _
    exact ht2 this.symm
  · obtain ⟨V, h1, h2⟩ := h.vm
    exact ⟨V, hb.imap h1 (hm h1), h2.mono fun v x ⟨pv, e, hrr⟩ => ⟨pv, e, hb.rowT hrr hr⟩⟩
  · obtain ⟨V, h1, h2⟩ := h.em
    exact ⟨V, hb.imap h1 (hm h1), h2.mono fun v x ⟨pv, e, hrr⟩ => ⟨pv, e, hb.rowT hrr hr⟩⟩
end
/-- At wb lies a walk over the graph at g: so many steps are left; is it spent? -/
def WalkAt (W : World) (wb g : Nat) (left : Int) (spent : Bool) : Prop := Blk W wb #[.iface 80 (.pointer (some ⟨g, 0, none⟩)), .int .i64 left, .bool spent] 149
/-- Were the steps there? What is left; is it spent? -/
def payOk (left : Int) (spent : Bool) (n : Int) : Bool := !spent && decide (n ≤ left)
def payL (left : Int) (spent : Bool) (n : Int) : Int := if payOk left spent n = true then left - max n 0 else 0
set_option maxRecDepth 100000 in
set_option maxHeartbeats 2000000 in
theorem walk_Pay_calls (wb g : Nat) (left : Int) (spent : Bool) (n : Int) (w : World) (h : WalkAt w wb g left spent) (h0 : 0 ≤ left) (h1 : left ≤ 1073741824) (hn : -9223372036854775808 ≤ n ∧ n ≤ 9223372036854775807) :
    Calls Try.prog 122 #[.pointer (some ⟨wb, 0, none⟩), .int .i64 n] w fun e w' => e = .returned (.bool (payOk left spent n)) ∧ WalkAt w' wb g (payL left spent n) (!payOk left spent n) ∧ But (fun k => k = wb) w w' := by
  have HK := Lib.hid h; clear h
  have k1 := blk_cell HK.out 1
  have k2 := blk_cell HK.out 2
  simp only [List.getElem?_toArray, List.getElem?_cons_zero, List.getElem?_cons_succ] at k1 k2
  have f1 := blk_frozen HK.out 1
  have f2 := blk_frozen HK.out 2
  have hb2 := Lib.hid ((But.set (S := fun k => k = wb) w ⟨wb, 2, none⟩ (.bool true) rfl).trans (But.set _ ⟨wb, 1, none⟩ (.int .i64 0) rfl))
  have hk2 := Lib.hid (blk_set (blk_set HK.out 2 (.bool true)) 1 (.int .i64 0))
  cases spent with
  | true =>
    go_enter Try.func122, Try.ntmps122
    go_wp2
    go_ret
    exact ⟨rfl, by have := hk2.out; simpa [WalkAt, payL, payOk] using this, hb2.out⟩
  | false =>
    by_cases hl : n ≤ left
    · have hl2 : ¬ left < n := by omega
      have e1 : payOk left false n = true := by simp [payOk, hl]
      go_enter Try.func122, Try.ntmps122
      go_wp2
      go_ret
      refine ⟨rfl, ?_, But.set (S := fun k => k = wb) w ⟨wb, 1, none⟩ _ rfl⟩
      have := blk_set HK.out 1 (.int .i64 (left - max n 0))
      simpa [WalkAt, payL, e1] using this
    · have hl2 : left < n := by omega
      have e1 : payOk left false n = false := by simp [payOk, hl]
      go_enter Try.func122, Try.ntmps122
      go_wp2
      go_ret
      refine ⟨rfl, ?_, hb2.out⟩
      have := hk2.out
      simpa [WalkAt, payL, e1] using this
end Go.Proofs.Ytonbnlfijmapfaa
/- walk.Edges, Edge, Vertex. No condition but on sizes. -/
namespace Go.Proofs.Ytonbnlfijmapfaa
open Go.RowKit Go.Shelf Go.Proofs.YtonbnlfijmapfaaW.PrintWords
set_option linter.unusedVariables false
set_option linter.unusedSimpArgs false


theorem vw_Out (a : Addr) (w : World) : (method 330 80 (.pointer (some a)) "Out").run Try.prog w = .ok (79, .pointer (some a)) w := by kernel_rfl
theorem vw_In (a : Addr) (w : World) : (method 330 80 (.pointer (some a)) "In").run Try.prog w = .ok (80, .pointer (some a)) w := by kernel_rfl
theorem vw_Edge (a : Addr) (w : World) : (method 330 80 (.pointer (some a)) "Edge").run Try.prog w = .ok (82, .pointer (some a)) w := by kernel_rfl
theorem vw_Vertex (a : Addr) (w : World) : (method 330 80 (.pointer (some a)) "Vertex").run Try.prog w = .ok (177, .pointer (some a)) w := by kernel_rfl
set_option maxRecDepth 100000 in
set_option maxHeartbeats 4000000 in
theorem walk_Edges_calls (B g m1 m2 wb : Nat) (vs : List SVert) (es : List SEdg) (left : Int) (spent out : Bool) (id : Int) (w : World) (hG : GraphAt w B g m1 m2 vs es) (h : WalkAt w wb g left spent) (h0 : 0 ≤ left) (h1 : left ≤ 1073741824) (hn : es.length ≤ 1000000) :
    Calls Try.prog 95 #[.pointer (some ⟨wb, 0, none⟩), .int .i64 id, .bool out] w fun e w' => ∃ v, e = .returned v ∧ (Kd.int .i64).R 3 w' w.heap.size (fun _ => True) v (if payOk left spent 1 = true then (if out = true then outIds es id else inIds es id) else []) ∧ WalkAt w' wb g (payL left spent 1) (!payOk left spent 1) ∧ But (fun k => k = wb) w w' := by
  have HG := Lib.hid hG; clear hG
  have HK := Lib.hid h; clear h
  have HP := Lib.hid (walk_Pay_calls wb g left spent 1 w HK.out h0 h1 (by omega))
  have q1 := vw_Out ⟨g, 0, none⟩
  have q2 := vw_In ⟨g, 0, none⟩
  cases hp : payOk left spent 1 with
  | false =>
    rw [hp] at HP
    go_enter Try.func95, Try.ntmps95
    go_wp2_with (go_at_call 122; refine HP.out.mono ?_; rintro e w1 ⟨rfl, hk, hb⟩; have HK1 := Lib.hid hk; have HB1 := Lib.hid hb; clear hk hb)
    go_ret
    exact ⟨_, rfl, Kd.R_nil _ _ _ _ _, HK1.out, HB1.out⟩
  | true =>
    rw [hp] at HP
    cases out with
    | true =>
      go_enter Try.func95, Try.ntmps95
      go_wp2_with (first
        | (go_at_call 122; refine HP.out.mono ?_; rintro e w1 ⟨rfl, hk, hb⟩; have HK1 := Lib.hid hk; have HB1 := Lib.hid hb; have HG1 := Lib.hid (HG.out.typed HK.out (by decide) (by decide) hb); have k0 := blk_cell hk 0; simp only [List.getElem?_toArray, List.getElem?_cons_zero] at k0; clear hk hb)
        | (go_at_call 79; refine (graph_Out_calls B g m1 m2 vs es id _ HG1.out hn).mono ?_; rintro e w2 ⟨v, rfl, hR, hb⟩; have HR2 := Lib.hid (Kd.R_lower (base' := w.heap.size) hR HB1.out.size); have HK2 := Lib.hid (blk_below hb HK1.out); have HB2 := Lib.hid (HB1.out.trans (But.of_below _ hb)); clear hR hb))
      go_ret
      exact ⟨v, rfl, HR2.out, HK2.out, HB2.out⟩
    | false =>
      go_enter Try.func95, Try.ntmps95
      go_wp2_with (first
        | (go_at_call 122; refine HP.out.mono ?_; rintro e w1 ⟨rfl, hk, hb⟩; have HK1 := Lib.hid hk; have HB1 := Lib.hid hb; have HG1 := Lib.hid (HG.out.typed HK.out (by decide) (by decide) hb); have k0 := blk_cell hk 0; simp only [List.getElem?_toArray, List.getElem?_cons_zero] at k0; clear hk hb)
        | (go_at_call 80; refine (graph_In_calls B g m1 m2 vs es id _ HG1.out hn).mono ?_; rintro e w2 ⟨v, rfl, hR, hb⟩; have HR2 := Lib.hid (Kd.R_lower (base' := w.heap.size) hR HB1.out.size); have HK2 := Lib.hid (blk_below hb HK1.out); have HB2 := Lib.hid (HB1.out.trans (But.of_below _ hb)); clear hR hb))
      go_ret
      exact ⟨v, rfl, HR2.out, HK2.out, HB2.out⟩
end Go.Proofs.Ytonbnlfijmapfaa
/- walk.Edge, Vertex. No condition but on sizes. -/
namespace Go.Proofs.Ytonbnlfijmapfaa
open Go.RowKit Go.Shelf Go.Proofs.YtonbnlfijmapfaaW.PrintWords
set_option linter.unusedVariables false
set_option linter.unusedSimpArgs false

theorem blk_other3 {w : World} {b b' : Nat} {cs : Array Value} {t : Nat} (h : Blk w b cs t) (hne : b ≠ b') (u0 u1 u2 : Value) : Blk (((w.setCell ⟨b', 0, none⟩ u0).setCell ⟨b', 1, none⟩ u1).setCell ⟨b', 2, none⟩ u2) b cs t :=
  blk_set_other (blk_set_other (blk_set_other h _ u0 hne) _ u1 hne) _ u2 hne
theorem blk_other5 {w : World} {b b' : Nat} {cs : Array Value} {t : Nat} (h : Blk w b cs t) (hne : b ≠ b') (u0 u1 u2 u3 u4 : Value) : Blk (((((w.setCell ⟨b', 0, none⟩ u0).setCell ⟨b', 1, none⟩ u1).setCell ⟨b', 2, none⟩ u2).setCell ⟨b', 3, none⟩ u3).setCell ⟨b', 4, none⟩ u4) b cs t :=
  blk_set_other (blk_set_other (blk_other3 h hne u0 u1 u2) _ u3 hne) _ u4 hne
section
variable {S : Nat → Prop} {w W : World} {b : Nat}
/-- What was laid since may turn. -/
theorem But.setNew (h : But S w W) (hb : w.heap.size ≤ b) (o : Nat) (u : Value) : But S w (W.setCell ⟨b, o, none⟩ u) :=
  ⟨h.os, h.tape, h.output, by simpa using h.size, fun k hk hn => (Below.heap_setCell W ⟨b, o, none⟩ u k (fun e => by have : k = b := e; omega)).trans (h.block k hk hn)⟩
theorem But.setNew3 (h : But S w W) (hb : w.heap.size ≤ b) (u0 u1 u2 : Value) : But S w (((W.setCell ⟨b, 0, none⟩ u0).setCell ⟨b, 1, none⟩ u1).setCell ⟨b, 2, none⟩ u2) := ((h.setNew hb 0 u0).setNew hb 1 u1).setNew hb 2 u2
theorem But.setNew5 (h : But S w W) (hb : w.heap.size ≤ b) (u0 u1 u2 u3 u4 : Value) : But S w (((((W.setCell ⟨b, 0, none⟩ u0).setCell ⟨b, 1, none⟩ u1).setCell ⟨b, 2, none⟩ u2).setCell ⟨b, 3, none⟩ u3).setCell ⟨b, 4, none⟩ u4) := ((h.setNew3 hb u0 u1 u2).setNew hb 3 u3).setNew hb 4 u4
end

def lookOEdge (left : Int) (spent : Bool) (xs : List SEdg) (n : Int) : SEdg := if payOk left spent 1 = true then getE xs n else ⟨0, ⟨#[]⟩, 0, 0, []⟩
set_option maxRecDepth 100000 in
set_option maxHeartbeats 4000000 in
theorem walk_Edge_calls (B g m1 m2 wb : Nat) (vs : List SVert) (es : List SEdg) (left : Int) (spent : Bool) (id : Int) (w : World) (hG : GraphAt w B g m1 m2 vs es) (h : WalkAt w wb g left spent) (h0 : 0 ≤ left) (h1 : left ≤ 1073741824) (hw : (Lit.int .i64 id).wf = true) (hz : (getE es id).f4.length ≤ 1000) :
    Calls Try.prog 96 #[.pointer (some ⟨wb, 0, none⟩), .int .i64 id] w fun e w' => ∃ v, e = .returned (.tuple #[.agg #[.int .i64 (lookOEdge left spent es id).f0, .string (lookOEdge left spent es id).f1, .int .i64 (lookOEdge left spent es id).f2, .int .i64 (lookOEdge left spent es id).f3, v], .bool (payOk left spent 1 && (findK SEdg.f0 es id).isSome)]) ∧ kPrp.R 117 w' w.heap.size (fun _ => True) v (lookOEdge left spent es id).f4 ∧ WalkAt w' wb g (payL left spent 1) (!payOk left spent 1) ∧ But (fun k => k = wb) w w' := by
  have HB0 := Lib.hid (below_al w (.cells #[.int .i64 0, .string ⟨#[]⟩, .int .i64 0, .int .i64 0, .slice none 0 0] 35))
  have HG := Lib.hid (hG.below HB0.out); clear hG
  have HK := Lib.hid (blk_below HB0.out h)
  have HC := Lib.hid (blk_new w #[.int .i64 0, .string ⟨#[]⟩, .int .i64 0, .int .i64 0, .slice none 0 0] 35)
  have hne : wb ≠ w.heap.size := fun e => by have := blk_lt h; omega
  have HP := Lib.hid (walk_Pay_calls wb g left spent 1 _ HK.out h0 h1 (by omega))
  have q1 := vw_Edge ⟨g, 0, none⟩
  unfold lookOEdge
  cases hp : payOk left spent 1 with
  | false =>
    rw [hp] at HP
    go_enter Try.func96, Try.ntmps96
    go_wp2_with (go_at_call 122; refine HP.out.mono ?_; rintro e w1 ⟨rfl, hk, hb⟩; have HK1 := Lib.hid hk; have HB1 := Lib.hid hb; have HC1 := Lib.hid (hb.blk HC.out (fun e => hne e.symm)); clear hk hb; have hc0 := blk_cell HC1.out 0; have hc1 := blk_cell HC1.out 1; have hc2 := blk_cell HC1.out 2; have hc3 := blk_cell HC1.out 3; have hc4 := blk_cell HC1.out 4; simp only [List.getElem?_toArray, List.getElem?_cons_zero, List.getElem?_cons_succ] at hc0 hc1 hc2 hc3 hc4; have hf0 := blk_frozen HC1.out 0; have hf1 := blk_frozen HC1.out 1; have hf2 := blk_frozen HC1.out 2; have hf3 := blk_frozen HC1.out 3; have hf4 := blk_frozen HC1.out 4)
    have hK := blk_set5 HC1.out (.int .i64 0) (.string ⟨#[]⟩) (.int .i64 0) (.int .i64 0) (.slice none 0 0)
    have k0' := blk_cell hK 0
    have k1' := blk_cell hK 1
    have k2' := blk_cell hK 2
    have k3' := blk_cell hK 3
    have k4' := blk_cell hK 4
    simp only [List.getElem?_toArray, List.getElem?_cons_zero, List.getElem?_cons_succ] at k0' k1' k2' k3' k4'
    refine bodyPost_ret (v := .tuple #[.agg #[.int .i64 0, .string ⟨#[]⟩, .int .i64 0, .int .i64 0, .slice none 0 0], .bool false]) (by simp [results, Try.results96, go_sem, k0', k1', k2', k3', k4']) rfl ⟨.slice none 0 0, rfl, Kd.R_nil _ _ _ _ _, ?_, ?_⟩
    · exact blk_other5 HK1.out hne _ _ _ _ _
    · exact ((But.of_below _ HB0.out).trans HB1.out).trans (But.of_below (fun k => k = wb) (Below.refl _ _)) |>.setNew5 (Nat.le_refl _) (.int .i64 0) (.string ⟨#[]⟩) (.int .i64 0) (.int .i64 0) (.slice none 0 0)
  | true =>
    rw [hp] at HP
    simp only [if_true, Bool.true_and]
    generalize hX : getE es id = X at hz ⊢
    go_enter Try.func96, Try.ntmps96
    go_wp2_with (first
      | (go_at_call 122; refine HP.out.mono ?_; rintro e w1 ⟨rfl, hk, hb⟩; have HK1 := Lib.hid hk; have HB1 := Lib.hid hb; have HC1 := Lib.hid (hb.blk HC.out (fun e => hne e.symm)); have HG1 := Lib.hid (HG.out.typed HK.out (by decide) (by decide) hb); have k0 := blk_cell hk 0; simp only [List.getElem?_toArray, List.getElem?_cons_zero] at k0; clear hk hb)
      | (go_at_call 82; refine (graph_Edge_calls B g m1 m2 vs es id _ HG1.out hw (by rw [hX]; exact hz)).mono ?_; rw [hX]; rintro e w2 ⟨v, rfl, hR, hb⟩; obtain ⟨A3, c3, rfl⟩ := Kd.R_slice hR; have HR2 := Lib.hid (Kd.R_lower (base' := w.heap.size) hR (Nat.le_trans HB0.out.size HB1.out.size)); have HK2 := Lib.hid (blk_below hb HK1.out); have HC2 := Lib.hid (blk_below hb HC1.out); have HB2 := Lib.hid (((But.of_below (fun k => k = wb) HB0.out).trans HB1.out).trans (But.of_below _ hb)); clear hR hb; have hc0 := blk_cell HC2.out 0; have hc1 := blk_cell HC2.out 1; have hc2 := blk_cell HC2.out 2; have hc3 := blk_cell HC2.out 3; have hc4 := blk_cell HC2.out 4; simp only [List.getElem?_toArray, List.getElem?_cons_zero, List.getElem?_cons_succ] at hc0 hc1 hc2 hc3 hc4; have hf0 := blk_frozen HC2.out 0; have hf1 := blk_frozen HC2.out 1; have hf2 := blk_frozen HC2.out 2; have hf3 := blk_frozen HC2.out 3; have hf4 := blk_frozen HC2.out 4))
    have hK := blk_set5 HC2.out (.int .i64 X.f0) (.string X.f1) (.int .i64 X.f2) (.int .i64 X.f3) (.slice A3 X.f4.length c3)
    have k0' := blk_cell hK 0
    have k1' := blk_cell hK 1
    have k2' := blk_cell hK 2
    have k3' := blk_cell hK 3
    have k4' := blk_cell hK 4
    simp only [List.getElem?_toArray, List.getElem?_cons_zero, List.getElem?_cons_succ] at k0' k1' k2' k3' k4'
    refine bodyPost_ret (v := .tuple #[.agg #[.int .i64 X.f0, .string X.f1, .int .i64 X.f2, .int .i64 X.f3, .slice A3 X.f4.length c3], .bool (findK SEdg.f0 es id).isSome]) (by simp [results, Try.results96, go_sem, k0', k1', k2', k3', k4']) rfl ⟨.slice A3 X.f4.length c3, rfl, ?_, ?_, ?_⟩
    · exact R_put5 HR2.out HC2.out (by decide) _ _ _ _ _
    · exact blk_other5 HK2.out hne _ _ _ _ _
    · exact HB2.out.setNew5 (Nat.le_refl _) _ _ _ _ _

def lookOVertex (left : Int) (spent : Bool) (xs : List SVert) (n : Int) : SVert := if payOk left spent 1 = true then getV xs n else ⟨0, ⟨#[]⟩, []⟩
set_option maxRecDepth 100000 in
set_option maxHeartbeats 4000000 in
theorem walk_Vertex_calls (B g m1 m2 wb : Nat) (vs : List SVert) (es : List SEdg) (left : Int) (spent : Bool) (id : Int) (w : World) (hG : GraphAt w B g m1 m2 vs es) (h : WalkAt w wb g left spent) (h0 : 0 ≤ left) (h1 : left ≤ 1073741824) (hw : (Lit.int .i64 id).wf = true) (hz : (getV vs id).f2.length ≤ 1000) :
    Calls Try.prog 93 #[.pointer (some ⟨wb, 0, none⟩), .int .i64 id] w fun e w' => ∃ v, e = .returned (.tuple #[.agg #[.int .i64 (lookOVertex left spent vs id).f0, .string (lookOVertex left spent vs id).f1, v], .bool (payOk left spent 1 && (findK SVert.f0 vs id).isSome)]) ∧ kPrp.R 117 w' w.heap.size (fun _ => True) v (lookOVertex left spent vs id).f2 ∧ WalkAt w' wb g (payL left spent 1) (!payOk left spent 1) ∧ But (fun k => k = wb) w w' := by
  have HB0 := Lib.hid (below_al w (.cells #[.int .i64 0, .string ⟨#[]⟩, .slice none 0 0] 24))
  have HG := Lib.hid (hG.below HB0.out); clear hG
  have HK := Lib.hid (blk_below HB0.out h)
  have HC := Lib.hid (blk_new w #[.int .i64 0, .string ⟨#[]⟩, .slice none 0 0] 24)
  have hne : wb ≠ w.heap.size := fun e => by have := blk_lt h; omega
  have HP := Lib.hid (walk_Pay_calls wb g left spent 1 _ HK.out h0 h1 (by omega))
  have q1 := vw_Vertex ⟨g, 0, none⟩
  unfold lookOVertex
  cases hp : payOk left spent 1 with
  | false =>
    rw [hp] at HP
    go_enter Try.func93, Try.ntmps93
    go_wp2_with (go_at_call 122; refine HP.out.mono ?_; rintro e w1 ⟨rfl, hk, hb⟩; have HK1 := Lib.hid hk; have HB1 := Lib.hid hb; have HC1 := Lib.hid (hb.blk HC.out (fun e => hne e.symm)); clear hk hb; have hc0 := blk_cell HC1.out 0; have hc1 := blk_cell HC1.out 1; have hc2 := blk_cell HC1.out 2; simp only [List.getElem?_toArray, List.getElem?_cons_zero, List.getElem?_cons_succ] at hc0 hc1 hc2; have hf0 := blk_frozen HC1.out 0; have hf1 := blk_frozen HC1.out 1; have hf2 := blk_frozen HC1.out 2)
    have hK := blk_set3 HC1.out (.int .i64 0) (.string ⟨#[]⟩) (.slice none 0 0)
    have k0' := blk_cell hK 0
    have k1' := blk_cell hK 1
    have k2' := blk_cell hK 2
    simp only [List.getElem?_toArray, List.getElem?_cons_zero, List.getElem?_cons_succ] at k0' k1' k2'
    refine bodyPost_ret (v := .tuple #[.agg #[.int .i64 0, .string ⟨#[]⟩, .slice none 0 0], .bool false]) (by simp [results, Try.results93, go_sem, k0', k1', k2']) rfl ⟨.slice none 0 0, rfl, Kd.R_nil _ _ _ _ _, ?_, ?_⟩
    · exact blk_other3 HK1.out hne _ _ _
    · exact ((But.of_below _ HB0.out).trans HB1.out).trans (But.of_below (fun k => k = wb) (Below.refl _ _)) |>.setNew3 (Nat.le_refl _) (.int .i64 0) (.string ⟨#[]⟩) (.slice none 0 0)
  | true =>
    rw [hp] at HP
    simp only [if_true, Bool.true_and]
    generalize hX : getV vs id = X at hz ⊢
    go_enter Try.func93, Try.ntmps93
    go_wp2_with (first
      | (go_at_call 122; refine HP.out.mono ?_; rintro e w1 ⟨rfl, hk, hb⟩; have HK1 := Lib.hid hk; have HB1 := Lib.hid hb; have HC1 := Lib.hid (hb.blk HC.out (fun e => hne e.symm)); have HG1 := Lib.hid (HG.out.typed HK.out (by decide) (by decide) hb); have k0 := blk_cell hk 0; simp only [List.getElem?_toArray, List.getElem?_cons_zero] at k0; clear hk hb)
      | (go_at_call 177; refine (graph_Vertex_calls B g m1 m2 vs es id _ HG1.out hw (by rw [hX]; exact hz)).mono ?_; rw [hX]; rintro e w2 ⟨v, rfl, hR, hb⟩; obtain ⟨A3, c3, rfl⟩ := Kd.R_slice hR; have HR2 := Lib.hid (Kd.R_lower (base' := w.heap.size) hR (Nat.le_trans HB0.out.size HB1.out.size)); have HK2 := Lib.hid (blk_below hb HK1.out); have HC2 := Lib.hid (blk_below hb HC1.out); have HB2 := Lib.hid (((But.of_below (fun k => k = wb) HB0.out).trans HB1.out).trans (But.of_below _ hb)); clear hR hb; have hc0 := blk_cell HC2.out 0; have hc1 := blk_cell HC2.out 1; have hc2 := blk_cell HC2.out 2; simp only [List.getElem?_toArray, List.getElem?_cons_zero, List.getElem?_cons_succ] at hc0 hc1 hc2; have hf0 := blk_frozen HC2.out 0; have hf1 := blk_frozen HC2.out 1; have hf2 := blk_frozen HC2.out 2))
    have hK := blk_set3 HC2.out (.int .i64 X.f0) (.string X.f1) (.slice A3 X.f2.length c3)
    have k0' := blk_cell hK 0
    have k1' := blk_cell hK 1
    have k2' := blk_cell hK 2
    simp only [List.getElem?_toArray, List.getElem?_cons_zero, List.getElem?_cons_succ] at k0' k1' k2'
    refine bodyPost_ret (v := .tuple #[.agg #[.int .i64 X.f0, .string X.f1, .slice A3 X.f2.length c3], .bool (findK SVert.f0 vs id).isSome]) (by simp [results, Try.results93, go_sem, k0', k1', k2']) rfl ⟨.slice A3 X.f2.length c3, rfl, ?_, ?_, ?_⟩
    · exact R_put3 HR2.out HC2.out (by decide) _ _ _
    · exact blk_other3 HK2.out hne _ _ _
    · exact HB2.out.setNew3 (Nat.le_refl _) _ _ _
end Go.Proofs.Ytonbnlfijmapfaa
/- walk.Next: what it says. No condition. -/
namespace Go.Proofs.Ytonbnlfijmapfaa
open Go.RowKit Go.Shelf Go.Proofs.YtonbnlfijmapfaaW.PrintWords
set_option linter.unusedVariables false
set_option linter.unusedSimpArgs false

/-- Is it an edge of the label (of any, if there is none)? -/
def okL (label : ByteArray) (e : SEdg) : Bool := label.toList.isEmpty || decide (e.f1 = label)
def near (out : Bool) (e : SEdg) : Int := if out = true then e.f2 else e.f3
def far (out : Bool) (e : SEdg) : Int := if out = true then e.f3 else e.f2
def endIds (es : List SEdg) (id : Int) (out : Bool) : List Int := if out = true then outIds es id else inIds es id
/-- Who is next to a vertex. -/
def nx (es : List SEdg) (id : Int) (out : Bool) (label : ByteArray) : List Int := sortU ((es.filter fun e => decide (near out e = id) && okL label e).map (far out))
def cost (es : List SEdg) (id : Int) (out : Bool) : Int := 1 + (endIds es id out).length
def nextOk (left : Int) (spent : Bool) (es : List SEdg) (id : Int) (out : Bool) : Bool := !spent && decide (cost es id out ≤ left)
/-- What walk.Next tells; how many steps are left then. -/
def nextL (left : Int) (spent : Bool) (es : List SEdg) (id : Int) (out : Bool) (label : ByteArray) : List Int := if nextOk left spent es id out = true then nx es id out label else []
def nextLeft (left : Int) (spent : Bool) (es : List SEdg) (id : Int) (out : Bool) : Int := if nextOk left spent es id out = true then left - cost es id out else 0
def one (es : List SEdg) (out : Bool) (label : ByteArray) (n : Int) : Option Int := if okL label (getE es n) = true then some (far out (getE es n)) else none
theorem getE_of {es : List SEdg} (hs : es.Pairwise (fun a b => a.f0 < b.f0)) {x : SEdg} (hx : x ∈ es) : getE es x.f0 = x := by rw [getE, findK_of hs hx]; rfl
theorem endIds_eq (es : List SEdg) (id : Int) (out : Bool) : endIds es id out = (es.filter fun e => decide (near out e = id)).map SEdg.f0 := by
  cases out <;> rfl
theorem mem_endIds {es : List SEdg} {id n : Int} {out : Bool} (h : n ∈ endIds es id out) : ∃ x ∈ es, x.f0 = n ∧ near out x = id := by
  rw [endIds_eq, List.mem_map] at h
  obtain ⟨x, hx, rfl⟩ := h
  rw [List.mem_filter, decide_eq_true_eq] at hx
  exact ⟨x, hx.1, rfl, hx.2⟩
theorem endIds_length (es : List SEdg) (id : Int) (out : Bool) : (endIds es id out).length ≤ es.length := by
  rw [endIds_eq, List.length_map]; exact List.length_filter_le _ _
theorem nx_eq {es : List SEdg} (hs : es.Pairwise (fun a b => a.f0 < b.f0)) (id : Int) (out : Bool) (label : ByteArray) : sortU ((endIds es id out).filterMap (one es out label)) = nx es id out label := by
  refine strict_ext (sortU_strict _) (sortU_strict _) (fun n => ?_)
  rw [nx, mem_sortU, mem_sortU, List.mem_filterMap, List.mem_map]
  constructor
  · rintro ⟨m, hm, h1⟩
    obtain ⟨x, hx, rfl, hn⟩ := mem_endIds hm
    rw [one, getE_of hs hx] at h1
    split at h1
    · rename_i ho
      injection h1 with h1
      exact ⟨x, List.mem_filter.2 ⟨hx, by simp [hn, ho]⟩, h1⟩
    · cases h1
  · rintro ⟨x, hx, h1⟩
    rw [List.mem_filter, Bool.and_eq_true, decide_eq_true_eq] at hx
    refine ⟨x.f0, ?_, ?_⟩
    · rw [endIds_eq]; exact List.mem_map.2 ⟨x, List.mem_filter.2 ⟨hx.1, by simpa using hx.2.1⟩, rfl⟩
    · rw [one, getE_of hs hx.1, if_pos hx.2.2, h1]
theorem alloc_size_ (w : World) (o : Obj) : (w.alloc o).heap.size = w.heap.size + 1 := by simp
theorem But.low2 {S : Nat → Prop} {w W W' : World} (h : But S w W) (hb : Below w.heap.size W W') : But S w W' :=
  ⟨hb.os.trans h.os, hb.tape.trans h.tape, hb.output.trans h.output, Nat.le_trans h.size hb.size, fun k hk hn => (hb.block k hk).trans (h.block k hk hn)⟩
theorem blk_low {W W' : World} {b n t : Nat} {cs : Array Value} (h : Blk W b cs t) (hb : Below n W W') (hlt : b < n) : Blk W' b cs t := (hb.block b hlt).trans h
theorem R_walk {W W' : World} {wb g base : Nat} {left : Int} {spent : Bool} {v : Value} {l : List Int} (hk : WalkAt W wb g left spent) (hb : But (fun k => k = wb) W W') (hR : (Kd.int .i64).R 3 W base (fun _ => True) v l) : (Kd.int .i64).R 3 W' base (fun _ => True) v l :=
  hb.rowT hR (fun k e q hq cells hc => by
    rw [e, show W.heap[wb]? = _ from hk] at hc
    injection hc with hc; injection hc with _ hc _
    have hq2 : q = 3 := by simpa [show (Kd.int .i64).E = [] from rfl] using hq
    rw [hq2] at hc
    revert hc; decide)
theorem payL_true {left n : Int} (hn : 0 ≤ n) (h : n ≤ left) : payL left false n = left - n ∧ payOk left false n = true := by
  have : payOk left false n = true := by simp [payOk, h]
  exact ⟨by rw [payL, this, if_pos rfl]; omega, this⟩
theorem payL_false {left n : Int} (h : ¬ n ≤ left) : payL left false n = 0 ∧ payOk left false n = false := by
  have : payOk left false n = false := by simp [payOk, h]
  exact ⟨by rw [payL, this]; rfl, this⟩
theorem payL_range {left n : Int} {spent : Bool} (h0 : 0 ≤ left) (hn : 0 ≤ n) : 0 ≤ payL left spent n ∧ payL left spent n ≤ left := by
  unfold payL
  by_cases hp : payOk left spent n = true
  · rw [if_pos hp]
    simp only [payOk, Bool.and_eq_true, decide_eq_true_eq] at hp
    omega
  · rw [if_neg hp]; omega
theorem GraphAt.sortedE {W : World} {B g m1 m2 : Nat} {vs : List SVert} {es : List SEdg} (h : GraphAt W B g m1 m2 vs es) : es.Pairwise (fun a b => a.f0 < b.f0) := by
  obtain ⟨E, hE, hZ⟩ := h.em
  exact hZ.sorted hE.1
theorem GraphAt.sortedV {W : World} {B g m1 m2 : Nat} {vs : List SVert} {es : List SEdg} (h : GraphAt W B g m1 m2 vs es) : vs.Pairwise (fun a b => a.f0 < b.f0) := by
  obtain ⟨V, hV, hZ⟩ := h.vm
  exact hZ.sorted hV.1
theorem getE_16 {es : List SEdg} (h : okE es) (n : Int) : (getE es n).f4.length ≤ 16 := by
  unfold getE
  cases hf : findK SEdg.f0 es n with
  | none => simp
  | some x => exact (okE_at h (List.mem_of_find?_eq_some hf)).2
theorem getV_16 {vs : List SVert} (h : okV vs) (n : Int) : (getV vs n).f2.length ≤ 16 := by
  unfold getV
  cases hf : findK SVert.f0 vs n with
  | none => simp
  | some x => exact (okV_at h (List.mem_of_find?_eq_some hf)).2
end Go.Proofs.Ytonbnlfijmapfaa
/- walk.Next. No condition but on sizes. -/
namespace Go.Proofs.Ytonbnlfijmapfaa
open Go.RowKit Go.Shelf Go.Proofs.YtonbnlfijmapfaaW.PrintWords
set_option linter.unusedVariables false
set_option linter.unusedSimpArgs false

set_option maxRecDepth 100000 in
set_option maxHeartbeats 16000000 in
theorem walk_Next_calls (B g m1 m2 wb : Nat) (vs : List SVert) (es : List SEdg) (left : Int) (spent out : Bool) (id : Int) (label : ByteArray) (w : World) (hG : GraphAt w B g m1 m2 vs es) (hE : okE es) (h : WalkAt w wb g left spent) (h0 : 0 ≤ left) (h1 : left ≤ 1073741824) (hn : es.length ≤ 100000) :
    Calls Try.prog 55 #[.pointer (some ⟨wb, 0, none⟩), .int .i64 id, .bool out, .string label] w fun e w' => ∃ v, e = .returned v ∧ (Kd.int .i64).R 3 w' w.heap.size (fun _ => True) v (nextL left spent es id out label) ∧ WalkAt w' wb g (nextLeft left spent es id out) (!nextOk left spent es id out) ∧ But (fun k => k = wb) w w' := by
  have HG := Lib.hid hG; clear hG
  have HE := Lib.hid hE; clear hE
  have HK0 := Lib.hid h; clear h
  have hEs := walk_Edges_calls B g m1 m2 wb vs es left spent out id w HG.out HK0.out h0 h1 (by omega)
  have HNX := Lib.hid (nx_eq HG.out.sortedE id out label)
  have HSE := Lib.hid HG.out.sortedE
  rw [show (if out = true then outIds es id else inIds es id) = endIds es id out from rfl] at hEs
  have hil := endIds_length es id out
  obtain ⟨ids, hids⟩ : ∃ ids, (if payOk left spent 1 = true then endIds es id out else []) = ids := ⟨_, rfl⟩
  obtain ⟨left1, hleft1⟩ : ∃ z, payL left spent 1 = z := ⟨_, rfl⟩
  obtain ⟨hl1, hl2⟩ := payL_range (spent := spent) (n := 1) h0 (by omega)
  rw [hleft1] at hl1 hl2
  have hil2 : ids.length ≤ 100000 := by
    rw [← hids]
    split
    · omega
    · simp
  have HIN : Hid (∀ n ∈ ids, payOk left spent 1 = true ∧ ∃ x ∈ es, x.f0 = n ∧ near out x = id) := Lib.hid (fun n hm => by
    rw [← hids] at hm
    split at hm
    · rename_i hp; exact ⟨hp, mem_endIds hm⟩
    · simp at hm)
  have HFIN : Hid (left1 - ids.length ≥ 0 → nextL left spent es id out label = sortU (ids.filterMap (one es out label)) ∧ nextLeft left spent es id out = left1 - ids.length ∧ (!nextOk left spent es id out) = (!payOk left spent 1)) := Lib.hid (fun hz => by
    unfold nextL nextLeft
    cases hp : payOk left spent 1 with
    | true =>
      rw [hp] at hids
      rw [payL, hp] at hleft1
      simp only [if_true] at hids hleft1
      have hsp : spent = false := by cases spent <;> simp_all [payOk]
      have hok : nextOk left spent es id out = true := by simp [nextOk, hsp, cost, hids]; omega
      rw [hok]
      refine ⟨by rw [if_pos rfl, ← hids, HNX.out], ?_, rfl⟩
      rw [if_pos rfl, cost, ← hleft1, hids]; omega
    | false =>
      rw [hp] at hids
      rw [payL, hp] at hleft1
      simp only [Bool.false_eq_true, if_false] at hids hleft1
      have hok : nextOk left spent es id out = false := by
        simp only [nextOk, cost]
        cases spent with
        | true => rfl
        | false =>
          have hp' : ¬ (1 : Int) ≤ left := by simpa [payOk] using hp
          have : ¬ (1 + ((endIds es id out).length : Int) ≤ left) := by omega
          simp [this]
      rw [hok]
      refine ⟨?_, ?_, rfl⟩
      · rw [if_neg (by simp), ← hids]
        exact (strict_ext (sortU_strict _) List.Pairwise.nil (fun n => by rw [mem_sortU]; simp)).symm
      · rw [if_neg (by simp), ← hleft1, ← hids]; simp)
  have HFAIL : Hid (payOk left spent 1 = true → left1 - ids.length < 0 → nextOk left spent es id out = false) := Lib.hid (fun hp hz => by
    rw [hp] at hids
    rw [payL, hp] at hleft1
    simp only [if_true] at hids hleft1
    have : ¬ cost es id out ≤ left := by rw [cost, hids]; omega
    simp [nextOk, this])
  rw [hids, hleft1] at hEs
  have HES := Lib.hid hEs
  clear hEs hids hleft1 hil
  generalize payOk left spent 1 = ok1 at HES HIN HFIN HFAIL
  go_enter Try.func55, Try.ntmps55
  go_wp2_with (go_at_call 95; refine HES.out.mono ?_; rintro e w1 ⟨v1, rfl, hR1, hk1, hb1⟩; obtain ⟨A1, c1, rfl⟩ := Kd.R_slice hR1; have HI1 := Lib.hid hR1; have HK1 := Lib.hid hk1; have HB1 := Lib.hid hb1; clear hR1 hk1 hb1)
  have HG1 := Lib.hid (HG.out.typed HK0.out (by decide) (by decide) HB1.out)
  go_loopw [9, 19] (fun v9 v19 wr => ∃ (k : Nat) (nl : List Int), k ≤ ids.length ∧ v19 = .int .i64 k ∧ (k : Int) ≤ left1 ∧ nl.length ≤ k ∧ Hid (WalkAt wr wb g (left1 - k) (!ok1)) ∧ Hid (But (fun k => k = wb) w1 wr) ∧ Hid ((Kd.int .i64).R 3 wr w1.heap.size (fun _ => True) v9 nl) ∧ Hid (nl = (ids.take k).filterMap (one es out label))) (fun _ v19 _ => ids.length - (intOf v19).toNat)
  case atStart => exact ⟨0, [], by omega, rfl, by omega, by simp, Lib.hid (by simpa using HK1.out), Lib.hid (But.refl _ _), Lib.hid (Kd.R_nil _ _ _ _ _), Lib.hid (by simp)⟩
  case round =>
    obtain ⟨k, nl, hk, rfl, hkl, hnl, HK, HB, HO, HL⟩ := hrel
    have HI := Lib.hid (R_walk HK1.out HB.out HI1.out)
    by_cases hlt : k < ids.length
    · have hlt2 : (k : Int) < (ids.length : Int) := by omega
      obtain ⟨ad, rfl, g0⟩ := Kd.at_int (Kd.R_reads' HI.out).2.2 (k : Int) (by omega) (by omega)
      simp only [Int.toNat_natCast, rd] at g0
      have HT := Lib.hid (take_more ids k 0 hlt)
      obtain ⟨rfl, X, hX, hXn, -⟩ := HIN.out (ids.getD k 0) (by simp [List.getD_eq_getElem?_getD, List.getElem?_eq_getElem hlt])
      have hgX := getE_of HSE.out hX
      have hfX := findK_of HSE.out hX
      have hwf := wf_id (okE_at HE.out hX).1
      have HON : Hid (one es out label (ids.getD k 0) = if okL label X = true then some (far out X) else none) := Lib.hid (by rw [one, ← hXn, hgX])
      rw [hXn] at hgX hfX hwf
      have hGr := HG1.out.typed HK1.out (by decide) (by decide) HB.out
      have hc := walk_Edge_calls B g m1 m2 wb vs es (left1 - k) false (ids.getD k 0) wr hGr HK.out (by omega) (by omega) hwf (Nat.le_trans (getE_16 HE.out _) (by omega))
      rw [hfX] at hc
      unfold lookOEdge at hc
      rw [hgX] at hc
      generalize ids.getD k 0 = n0 at g0 HT HON hc hXn
      obtain ⟨n, s, x, y, l⟩ := X
      simp only at hXn
      subst hXn
      by_cases hpay : (1 : Int) ≤ left1 - k
      · obtain ⟨e1, e2⟩ := payL_true (by omega) hpay
        rw [e1, e2] at hc
        simp only [if_true, Bool.true_and, Option.isSome_some, Bool.not_true] at hc
        have HEc := Lib.hid hc
        clear hc hgX hfX e1 e2 hGr
        have HKN : Hid (∀ W : World, WalkAt W wb g (left1 - k - 1) false → WalkAt W wb g (left1 - ((k + 1 : Nat) : Int)) (!true)) := Lib.hid (fun W h => by rw [show left1 - ((k + 1 : Nat) : Int) = left1 - k - 1 by omega]; exact h)
        by_cases hlab : label.toList.isEmpty = true
        · have HNN : Hid ((ids.take (k + 1)).filterMap (one es out label) = nl ++ [far out ⟨n, s, x, y, l⟩]) := Lib.hid (by rw [HT.out, List.filterMap_append, ← HL.out]; simp [HON.out, okL, hlab])
          cases out with
          | true =>
            go_wp2_with (first
              | (go_at_call 96; refine HEc.out.mono ?_; ( rintro e w2 ⟨v2, rfl, hR2, hk2, hb2⟩; obtain ⟨A2, c2, rfl⟩ := Kd.R_slice hR2; have HK2 := Lib.hid hk2; have HB2 := Lib.hid (HB.out.trans hb2); have HO2 := Lib.hid (R_walk HK.out hb2 HO.out); clear hR2 hk2 hb2; have ks := blk_cell (blk_alloc HK2.out (.cells #[.int .i64 n, .string s, .int .i64 x, .int .i64 y, .slice A2 l.length c2] 35)) 2; have ke1 := blk_cell (blk_new w2 #[.int .i64 n, .string s, .int .i64 x, .int .i64 y, .slice A2 l.length c2] 35) 1; have ke2 := blk_cell (blk_new w2 #[.int .i64 n, .string s, .int .i64 x, .int .i64 y, .slice A2 l.length c2] 35) 2; have ke3 := blk_cell (blk_new w2 #[.int .i64 n, .string s, .int .i64 x, .int .i64 y, .slice A2 l.length c2] 35) 3; simp only [List.getElem?_toArray, List.getElem?_cons_zero, List.getElem?_cons_succ] at ks ke1 ke2 ke3; have hba := below_al w2 (.cells #[.int .i64 n, .string s, .int .i64 x, .int .i64 y, .slice A2 l.length c2] 35); have HK3 := Lib.hid (blk_below hba HK2.out); have HB3 := Lib.hid (HB2.out.trans (But.of_below _ hba)); have HO3 := Lib.hid (Kd.R_below HO2.out hba); clear hba))
              | (at_builtin; go_loud ((refine app_one HO3.out info_int Try.underlying49 (M_int _) (fun _ _ => trivial) HB3.out.size ?aL rfl (by decide) (by decide) rfl rfl rfl ?hx ?_); (case aL => omega); (case hx => rw [alloc_size_]; rfl); intro v4 w4 hR4 hb4 hg4 hat4; have HO4 := Lib.hid hR4; have HB4 := Lib.hid (HB3.out.low2 hb4); have HK4 := Lib.hid (blk_low HK3.out hb4 (blk_lt HK1.out)); clear hR4 hb4 hg4 hat4)))
            go_roundw
            case rel => exact ⟨k + 1, nl ++ [y], by omega, by go_num, by omega, by rw [List.length_append]; simp; omega, Lib.hid (HKN.out _ HK4.out), HB4, HO4, Lib.hid (by have := HNN.out; simpa [far] using this.symm)⟩
            case measure => simp [intOf]; omega
          | false =>
            go_wp2_with (first
              | (go_at_call 96; refine HEc.out.mono ?_; ( rintro e w2 ⟨v2, rfl, hR2, hk2, hb2⟩; obtain ⟨A2, c2, rfl⟩ := Kd.R_slice hR2; have HK2 := Lib.hid hk2; have HB2 := Lib.hid (HB.out.trans hb2); have HO2 := Lib.hid (R_walk HK.out hb2 HO.out); clear hR2 hk2 hb2; have ks := blk_cell (blk_alloc HK2.out (.cells #[.int .i64 n, .string s, .int .i64 x, .int .i64 y, .slice A2 l.length c2] 35)) 2; have ke1 := blk_cell (blk_new w2 #[.int .i64 n, .string s, .int .i64 x, .int .i64 y, .slice A2 l.length c2] 35) 1; have ke2 := blk_cell (blk_new w2 #[.int .i64 n, .string s, .int .i64 x, .int .i64 y, .slice A2 l.length c2] 35) 2; have ke3 := blk_cell (blk_new w2 #[.int .i64 n, .string s, .int .i64 x, .int .i64 y, .slice A2 l.length c2] 35) 3; simp only [List.getElem?_toArray, List.getElem?_cons_zero, List.getElem?_cons_succ] at ks ke1 ke2 ke3; have hba := below_al w2 (.cells #[.int .i64 n, .string s, .int .i64 x, .int .i64 y, .slice A2 l.length c2] 35); have HK3 := Lib.hid (blk_below hba HK2.out); have HB3 := Lib.hid (HB2.out.trans (But.of_below _ hba)); have HO3 := Lib.hid (Kd.R_below HO2.out hba); clear hba))
              | (at_builtin; go_loud ((refine app_one HO3.out info_int Try.underlying49 (M_int _) (fun _ _ => trivial) HB3.out.size ?aL rfl (by decide) (by decide) rfl rfl rfl ?hx ?_); (case aL => omega); (case hx => rw [alloc_size_]; rfl); intro v4 w4 hR4 hb4 hg4 hat4; have HO4 := Lib.hid hR4; have HB4 := Lib.hid (HB3.out.low2 hb4); have HK4 := Lib.hid (blk_low HK3.out hb4 (blk_lt HK1.out)); clear hR4 hb4 hg4 hat4)))
            go_roundw
            case rel => exact ⟨k + 1, nl ++ [x], by omega, by go_num, by omega, by rw [List.length_append]; simp; omega, Lib.hid (HKN.out _ HK4.out), HB4, HO4, Lib.hid (by have := HNN.out; simpa [far] using this.symm)⟩
            case measure => simp [intOf]; omega
        · have hlab0 : label.toList.isEmpty = false := by simpa using hlab
          by_cases hsl : s = label
          · have HNN : Hid ((ids.take (k + 1)).filterMap (one es out label) = nl ++ [far out ⟨n, s, x, y, l⟩]) := Lib.hid (by rw [HT.out, List.filterMap_append, ← HL.out]; simp [HON.out, okL, hsl])
            have hss : (s.toList == label.toList) = true := by rw [toList_eq]; exact decide_eq_true hsl
            clear hsl hlab
            cases out with
            | true =>
              go_wp2_with (first
                | (go_at_call 96; refine HEc.out.mono ?_; ( rintro e w2 ⟨v2, rfl, hR2, hk2, hb2⟩; obtain ⟨A2, c2, rfl⟩ := Kd.R_slice hR2; have HK2 := Lib.hid hk2; have HB2 := Lib.hid (HB.out.trans hb2); have HO2 := Lib.hid (R_walk HK.out hb2 HO.out); clear hR2 hk2 hb2; have ks := blk_cell (blk_alloc HK2.out (.cells #[.int .i64 n, .string s, .int .i64 x, .int .i64 y, .slice A2 l.length c2] 35)) 2; have ke1 := blk_cell (blk_new w2 #[.int .i64 n, .string s, .int .i64 x, .int .i64 y, .slice A2 l.length c2] 35) 1; have ke2 := blk_cell (blk_new w2 #[.int .i64 n, .string s, .int .i64 x, .int .i64 y, .slice A2 l.length c2] 35) 2; have ke3 := blk_cell (blk_new w2 #[.int .i64 n, .string s, .int .i64 x, .int .i64 y, .slice A2 l.length c2] 35) 3; simp only [List.getElem?_toArray, List.getElem?_cons_zero, List.getElem?_cons_succ] at ks ke1 ke2 ke3; have hba := below_al w2 (.cells #[.int .i64 n, .string s, .int .i64 x, .int .i64 y, .slice A2 l.length c2] 35); have HK3 := Lib.hid (blk_below hba HK2.out); have HB3 := Lib.hid (HB2.out.trans (But.of_below _ hba)); have HO3 := Lib.hid (Kd.R_below HO2.out hba); clear hba))
                | (at_builtin; go_loud ((refine app_one HO3.out info_int Try.underlying49 (M_int _) (fun _ _ => trivial) HB3.out.size ?aL rfl (by decide) (by decide) rfl rfl rfl ?hx ?_); (case aL => omega); (case hx => rw [alloc_size_]; rfl); intro v4 w4 hR4 hb4 hg4 hat4; have HO4 := Lib.hid hR4; have HB4 := Lib.hid (HB3.out.low2 hb4); have HK4 := Lib.hid (blk_low HK3.out hb4 (blk_lt HK1.out)); clear hR4 hb4 hg4 hat4)))
              go_roundw
              case rel => exact ⟨k + 1, nl ++ [y], by omega, by go_num, by omega, by rw [List.length_append]; simp; omega, Lib.hid (HKN.out _ HK4.out), HB4, HO4, Lib.hid (by have := HNN.out; simpa [far] using this.symm)⟩
              case measure => simp [intOf]; omega
            | false =>
              go_wp2_with (first
                | (go_at_call 96; refine HEc.out.mono ?_; ( rintro e w2 ⟨v2, rfl, hR2, hk2, hb2⟩; obtain ⟨A2, c2, rfl⟩ := Kd.R_slice hR2; have HK2 := Lib.hid hk2; have HB2 := Lib.hid (HB.out.trans hb2); have HO2 := Lib.hid (R_walk HK.out hb2 HO.out); clear hR2 hk2 hb2; have ks := blk_cell (blk_alloc HK2.out (.cells #[.int .i64 n, .string s, .int .i64 x, .int .i64 y, .slice A2 l.length c2] 35)) 2; have ke1 := blk_cell (blk_new w2 #[.int .i64 n, .string s, .int .i64 x, .int .i64 y, .slice A2 l.length c2] 35) 1; have ke2 := blk_cell (blk_new w2 #[.int .i64 n, .string s, .int .i64 x, .int .i64 y, .slice A2 l.length c2] 35) 2; have ke3 := blk_cell (blk_new w2 #[.int .i64 n, .string s, .int .i64 x, .int .i64 y, .slice A2 l.length c2] 35) 3; simp only [List.getElem?_toArray, List.getElem?_cons_zero, List.getElem?_cons_succ] at ks ke1 ke2 ke3; have hba := below_al w2 (.cells #[.int .i64 n, .string s, .int .i64 x, .int .i64 y, .slice A2 l.length c2] 35); have HK3 := Lib.hid (blk_below hba HK2.out); have HB3 := Lib.hid (HB2.out.trans (But.of_below _ hba)); have HO3 := Lib.hid (Kd.R_below HO2.out hba); clear hba))
                | (at_builtin; go_loud ((refine app_one HO3.out info_int Try.underlying49 (M_int _) (fun _ _ => trivial) HB3.out.size ?aL rfl (by decide) (by decide) rfl rfl rfl ?hx ?_); (case aL => omega); (case hx => rw [alloc_size_]; rfl); intro v4 w4 hR4 hb4 hg4 hat4; have HO4 := Lib.hid hR4; have HB4 := Lib.hid (HB3.out.low2 hb4); have HK4 := Lib.hid (blk_low HK3.out hb4 (blk_lt HK1.out)); clear hR4 hb4 hg4 hat4)))
              go_roundw
              case rel => exact ⟨k + 1, nl ++ [x], by omega, by go_num, by omega, by rw [List.length_append]; simp; omega, Lib.hid (HKN.out _ HK4.out), HB4, HO4, Lib.hid (by have := HNN.out; simpa [far] using this.symm)⟩
              case measure => simp [intOf]; omega
          · have HNN : Hid ((ids.take (k + 1)).filterMap (one es out label) = nl) := Lib.hid (by rw [HT.out, List.filterMap_append, ← HL.out]; simp [HON.out, okL, hsl, hlab0])
            have hss : (s.toList == label.toList) = false := by rw [toList_eq]; exact decide_eq_false hsl
            clear hlab
            go_wp2_with (go_at_call 96; refine HEc.out.mono ?_; ( rintro e w2 ⟨v2, rfl, hR2, hk2, hb2⟩; obtain ⟨A2, c2, rfl⟩ := Kd.R_slice hR2; have HK2 := Lib.hid hk2; have HB2 := Lib.hid (HB.out.trans hb2); have HO2 := Lib.hid (R_walk HK.out hb2 HO.out); clear hR2 hk2 hb2; have ks := blk_cell (blk_alloc HK2.out (.cells #[.int .i64 n, .string s, .int .i64 x, .int .i64 y, .slice A2 l.length c2] 35)) 2; have ke1 := blk_cell (blk_new w2 #[.int .i64 n, .string s, .int .i64 x, .int .i64 y, .slice A2 l.length c2] 35) 1; have ke2 := blk_cell (blk_new w2 #[.int .i64 n, .string s, .int .i64 x, .int .i64 y, .slice A2 l.length c2] 35) 2; have ke3 := blk_cell (blk_new w2 #[.int .i64 n, .string s, .int .i64 x, .int .i64 y, .slice A2 l.length c2] 35) 3; simp only [List.getElem?_toArray, List.getElem?_cons_zero, List.getElem?_cons_succ] at ks ke1 ke2 ke3; have hba := below_al w2 (.cells #[.int .i64 n, .string s, .int .i64 x, .int .i64 y, .slice A2 l.length c2] 35); have HK3 := Lib.hid (blk_below hba HK2.out); have HB3 := Lib.hid (HB2.out.trans (But.of_below _ hba)); have HO3 := Lib.hid (Kd.R_below HO2.out hba); clear hba))
            go_roundw
            case rel => exact ⟨k + 1, nl, by omega, by go_num, by omega, by omega, Lib.hid (HKN.out _ HK3.out), HB3, HO3, Lib.hid HNN.out.symm⟩
            case measure => simp [intOf]; omega
      · obtain ⟨e1, e2⟩ := payL_false hpay
        rw [e1, e2] at hc
        simp only [if_false, Bool.false_eq_true, Bool.false_and, Bool.not_false] at hc
        have HEc := Lib.hid hc
        have hne0 := HFAIL.out rfl (by omega)
        clear hc hgX hfX e1 e2 hGr
        have HNE := Lib.hid hne0
        clear hne0
        go_wp2_with (go_at_call 96; refine HEc.out.mono ?_; rintro e w2 ⟨v2, rfl, hR2, hk2, hb2⟩; obtain ⟨A2, c2, rfl⟩ := Kd.R_slice hR2; have HK2 := Lib.hid hk2; have HB2 := Lib.hid (HB.out.trans hb2); clear hR2 hk2 hb2; have ks := blk_cell (blk_alloc HK2.out (.cells #[.int .i64 0, .string ⟨#[]⟩, .int .i64 0, .int .i64 0, .slice A2 0 c2] 35)) 2; simp only [List.getElem?_toArray, List.getElem?_cons_zero, List.getElem?_cons_succ] at ks; have hba := below_al w2 (.cells #[.int .i64 0, .string ⟨#[]⟩, .int .i64 0, .int .i64 0, .slice A2 0 c2] 35); have HK3 := Lib.hid (blk_below hba HK2.out); have HB3 := Lib.hid (HB2.out.trans (But.of_below _ hba)); clear hba)
        go_ret
        unfold nextL nextLeft
        rw [HNE.out]
        exact ⟨_, rfl, Kd.R_nil _ _ _ _ _, HK3.out, HB1.out.trans HB3.out⟩
    · have hlt2 : ¬ (k : Int) < (ids.length : Int) := by omega
      have HFF := Lib.hid (HFIN.out (by omega))
      have HL2 := Lib.hid (show nl = ids.filterMap (one es out label) from by have := HL.out; rwa [List.take_of_length_le (by omega)] at this)
      have HK2 := Lib.hid (show WalkAt wr wb g (left1 - ids.length) (!ok1) from by have := HK.out; rwa [show k = ids.length by omega] at this)
      go_wp2_with (first
        | (go_at_call 97; refine (sort_ints_calls _ nl w1.heap.size _ HO.out (by omega)).mono ?_; rintro e w2 ⟨rfl, hR2, hg2⟩; have hb2 := (Below.refl w1.heap.size wr).grown hg2 HB.out.size (own_base (Kd.own_of_R HO.out)); have HR2 := Lib.hid hR2; have HB2 := Lib.hid (HB.out.low2 hb2); have HK3 := Lib.hid (blk_low HK2.out hb2 (blk_lt HK1.out)); clear hR2 hg2 hb2)
        | (go_at_call 98; refine (compact_ints_calls _ _ w1.heap.size _ HR2.out (by rw [srt_length]; omega)).mono ?_; rintro e w3 ⟨v3, rfl, hR3, hg3, -⟩; have hb3 := (Below.refl w1.heap.size w2).grown hg3 HB2.out.size (own_base (Kd.own_of_R HR2.out)); have HR3 := Lib.hid hR3; have HB3 := Lib.hid (HB2.out.low2 hb3); have HK4 := Lib.hid (blk_low HK3.out hb3 (blk_lt HK1.out)); clear hR3 hg3 hb3))
      go_ret
      obtain ⟨f1, f2, f3⟩ := HFF.out
      rw [f1, f2, f3]
      refine ⟨v3, rfl, ?_, HK4.out, HB1.out.trans HB3.out⟩
      have := HR3.out
      rw [HL2.out] at this
      exact Kd.R_lower this HB1.out.size
end Go.Proofs.Ytonbnlfijmapfaa
/- cobwebref16.Graph.V, E. No condition. -/
namespace Go.Proofs.Ytonbnlfijmapfaa
open Go.RowKit Go.Shelf Go.Proofs.YtonbnlfijmapfaaW.PrintWords
set_option linter.unusedVariables false
set_option linter.unusedSimpArgs false


set_option maxRecDepth 100000 in
set_option maxHeartbeats 2000000 in
theorem ref16_V_calls (ok : Nat → Prop) (r c d : Nat) (A B : Option Addr) (vs : List SVert) (es : List SEdg) (id : Int) (w : World) (h : RefAt w ok r A c B d vs es) :
    Calls Try.prog 68 #[.pointer (some ⟨r, 0, none⟩), .int .i64 id] w fun e w' => e = .returned (.int .i64 (placeK SVert.f0 vs id)) ∧ w = w' := by
  have hX := Kd.F_now h.vr
  have hm := Kd.C_max hX
  have HX := Lib.hid hX
  have hk := blk_cell h.blk 0
  simp only [List.getElem?_toArray, List.getElem?_cons_zero, List.getElem?_cons_succ] at hk
  clear hX h
  go_enter Try.func68, Try.ntmps68
  go_wp2
  go_loopw [5] (fun v5 wr => ∃ (k : Nat), k ≤ vs.length ∧ v5 = .int .i64 k ∧ wr = w ∧ Hid (∀ x ∈ vs.take k, x.f0 ≠ id)) (fun v5 _ => vs.length - (intOf v5).toNat)
  case atStart => exact ⟨0, by omega, rfl, rfl, Lib.hid (by simp)⟩
  case round =>
    obtain ⟨k, hkl, rfl, rfl, HN⟩ := hrel
    by_cases hlt : k < vs.length
    · have hlt2 : (k : Int) < (vs.length : Int) := by omega
      have hat := at_Vert HX.out (k : Int) (by omega) (by omega)
      obtain ⟨ad, A2, c2, rfl, g0, -⟩ := hat
      simp only [Int.toNat_natCast, rd_Vert] at g0
      have HT := Lib.hid (take_more vs k zVert hlt)
      by_cases h0 : (vs.getD k zVert).f0 = id
      · have HP := Lib.hid (placeK_at (key := SVert.f0) hlt HN.out h0)
        rw [h0] at g0
        go_wp2
        go_ret
        exact ⟨ret_int HP.out.symm, rfl⟩
      · have HN2 : Hid (∀ x ∈ vs.take (k + 1), x.f0 ≠ id) := Lib.hid (by
          rw [HT.out]
          intro a ha
          rcases List.mem_append.1 ha with ha | ha
          · exact HN.out a ha
          · rw [List.mem_singleton] at ha; rw [ha]; exact h0)
        generalize (vs.getD k zVert).f0 = y at g0 h0
        go_wp2
        go_roundw
        case rel => exact ⟨k + 1, by omega, by go_num, by trivial, HN2⟩
        case measure => simp [intOf]; omega
    · have hlt2 : ¬ (k : Int) < (vs.length : Int) := by omega
      have HP := Lib.hid (placeK_none (key := SVert.f0) (xs := vs) (n := id) (by have := HN.out; rwa [List.take_of_length_le (by omega)] at this))
      go_wp2
      go_ret
      exact ⟨ret_int HP.out.symm, rfl⟩

set_option maxRecDepth 100000 in
set_option maxHeartbeats 2000000 in
theorem ref16_E_calls (ok : Nat → Prop) (r c d : Nat) (A B : Option Addr) (vs : List SVert) (es : List SEdg) (id : Int) (w : World) (h : RefAt w ok r A c B d vs es) :
    Calls Try.prog 136 #[.pointer (some ⟨r, 0, none⟩), .int .i64 id] w fun e w' => e = .returned (.int .i64 (placeK SEdg.f0 es id)) ∧ w = w' := by
  have hX := Kd.F_now h.er
  have hm := Kd.C_max hX
  have HX := Lib.hid hX
  have hk := blk_cell h.blk 1
  simp only [List.getElem?_toArray, List.getElem?_cons_zero, List.getElem?_cons_succ] at hk
  clear hX h
  go_enter Try.func136, Try.ntmps136
  go_wp2
  go_loopw [5] (fun v5 wr => ∃ (k : Nat), k ≤ es.length ∧ v5 = .int .i64 k ∧ wr = w ∧ Hid (∀ x ∈ es.take k, x.f0 ≠ id)) (fun v5 _ => es.length - (intOf v5).toNat)
  case atStart => exact ⟨0, by omega, rfl, rfl, Lib.hid (by simp)⟩
  case round =>
    obtain ⟨k, hkl, rfl, rfl, HN⟩ := hrel
    by_cases hlt : k < es.length
    · have hlt2 : (k : Int) < (es.length : Int) := by omega
      have hat := at_Edg HX.out (k : Int) (by omega) (by omega)
      obtain ⟨ad, A2, c2, rfl, g0, -⟩ := hat
      simp only [Int.toNat_natCast, rd_Edg] at g0
      have HT := Lib.hid (take_more es k zEdg hlt)
      by_cases h0 : (es.getD k zEdg).f0 = id
      · have HP := Lib.hid (placeK_at (key := SEdg.f0) hlt HN.out h0)
        rw [h0] at g0
        go_wp2
        go_ret
        exact ⟨ret_int HP.out.symm, rfl⟩
      · have HN2 : Hid (∀ x ∈ es.take (k + 1), x.f0 ≠ id) := Lib.hid (by
          rw [HT.out]
          intro a ha
          rcases List.mem_append.1 ha with ha | ha
          · exact HN.out a ha
          · rw [List.mem_singleton] at ha; rw [ha]; exact h0)
        generalize (es.getD k zEdg).f0 = y at g0 h0
        go_wp2
        go_roundw
        case rel => exact ⟨k + 1, by omega, by go_num, by trivial, HN2⟩
        case measure => simp [intOf]; omega
    · have hlt2 : ¬ (k : Int) < (es.length : Int) := by omega
      have HP := Lib.hid (placeK_none (key := SEdg.f0) (xs := es) (n := id) (by have := HN.out; rwa [List.take_of_length_le (by omega)] at this))
      go_wp2
      go_ret
      exact ⟨ret_int HP.out.symm, rfl⟩

end Go.Proofs.Ytonbnlfijmapfaa
/- cobwebref16.Graph.AddVertex. No condition but on sizes. -/
namespace Go.Proofs.Ytonbnlfijmapfaa
open Go.RowKit Go.Shelf Go.Proofs.YtonbnlfijmapfaaW.PrintWords
set_option linter.unusedVariables false
set_option linter.unusedSimpArgs false

theorem Below.le_ {a b : Nat} (h : a ≤ b) : a ≤ b := h
set_option maxRecDepth 100000 in
set_option maxHeartbeats 16000000 in
theorem ref16_AddVertex_calls (ok : Nat → Prop) (r c d : Nat) (A B : Option Addr) (vs : List SVert) (es : List SEdg) (id : Int) (s : ByteArray) (A2 : Option Addr) (c2 : Nat) (l : List SPrp) (w : World) (hR : RefAt w ok r A c B d vs es) (hok : ∀ k, w.heap.size ≤ k → ok k)
    (h : kPrp.C w A2 l.length l) (hf : fits l) (hs : s.size ≤ 2000000) (hn : vs.length ≤ 100000) :
    Calls Try.prog 123 #[.pointer (some ⟨r, 0, none⟩), .agg #[.int .i64 id, .string s, .slice A2 l.length c2]] w fun e w' => ∃ A' c', e = .returned (.int .i64 (addV vs ⟨id, s, l⟩).2) ∧ RefAt w' ok r A' c' B d (addV vs ⟨id, s, l⟩).1 es ∧ But (fun k => k = r) w w' := by
  have HX := Lib.hid h; clear h
  have HF := Lib.hid hf; clear hf
  have HR := Lib.hid hR; clear hR
  have HOK := Lib.hid hok; clear hok
  have p1 : True := trivial
  have p2 : True := trivial
  have HD := Lib.hid (show addV vs ⟨id, s, l⟩ = (if checkN s l [id] = 0 then (if (findK SVert.f0 vs id).isSome = true then (vs, 31) else (insK SVert.f0 ⟨id, s, l⟩ vs, 0)) else (vs, checkN s l [id])) from rfl)
  have HB0 := Lib.hid (keepB0 (below_al (w.alloc (.cells #[.int .i64 id, .string s, .slice A2 l.length c2] 24)) (.cells #[.int .i64 id] 3)) (below_al w (.cells #[.int .i64 id, .string s, .slice A2 l.length c2] 24)))
  by_cases hc : checkN s l [id] = 0
  · rw [if_pos hc] at HD
    have h16 := (propsRight_ok (checkN_ok hc).2.2).2
    cases hfd : (findK SVert.f0 vs id).isSome with
    | true =>
      rw [hfd] at HD
      simp only [if_true] at HD
      have hp0 := placeK_found.2 hfd
      have HV := Lib.hid (fun W hW => ref16_V_calls ok r c d A B vs es id W (HR.out.below hW))
      generalize placeK SVert.f0 vs id = pl at hp0 HV
      go_enter Try.func123, Try.ntmps123
      go_wp2_with (first
        | (go_at_call 36; refine (ref16_Check_calls s A2 _ c2 1 l [id] _ hs (Kd.C_below HX.out HB0.out) HF.out ?hI).mono ?_; (case hI => exact C_boxg (Kd.int .i64) (by decide) _ _ (by simp) id #[.int .i64 id] _ rfl); rw [hc]; rintro e w1 ⟨rfl, hb1⟩; have HB1 := Lib.hid (keepB0 hb1 HB0.out); have HK1 := Lib.hid (blk_below hb1 (blk_alloc (blk_new w #[.int .i64 id, .string s, .slice A2 l.length c2] 24) (.cells #[.int .i64 id] 3))); clear hb1; have kc0 := blk_cell HK1.out 0; simp only [List.getElem?_toArray, List.getElem?_cons_zero, List.getElem?_cons_succ] at kc0)
        | (go_at_call 68; refine (HV.out _ HB1.out).mono ?_; rintro e w2 ⟨rfl, rfl⟩))
      go_ret
      refine ⟨A, c, ?_⟩
      rw [HD.out]
      exact ⟨rfl, HR.out.below HB1.out, But.of_below _ HB1.out⟩
    | false =>
      rw [hfd] at HD
      simp only [Bool.false_eq_true, if_false] at HD
      have hp0 : ¬ (0 : Int) ≤ placeK SVert.f0 vs id := fun e => by rw [placeK_found.1 e] at hfd; cases hfd
      have HV := Lib.hid (fun W hW => ref16_V_calls ok r c d A B vs es id W (HR.out.below hW))
      have HNE : Hid (∀ y ∈ vs, y.f0 ≠ id) := Lib.hid (fun y hy e => by
        have : findK SVert.f0 vs id = none := by cases h : findK SVert.f0 vs id with | none => rfl | some z => rw [h] at hfd; cases hfd
        rw [findK, List.find?_eq_none] at this
        have := this y hy
        simp [e] at this)
      have HVR : Hid (∀ W, Below w.heap.size w W → Kd.F kVert W (fun k => ok k ∧ k < w.heap.size) A vs.length vs) := Lib.hid (fun W hW => Kd.F_below (Kd.F_bound HR.out.vr) hW)
      generalize placeK SVert.f0 vs id = pl at hp0 HV
      go_enter Try.func123, Try.ntmps123
      go_wp2_with (first
        | (go_at_call 36; refine (ref16_Check_calls s A2 _ c2 1 l [id] _ hs (Kd.C_below HX.out HB0.out) HF.out ?hI).mono ?_; (case hI => exact C_boxg (Kd.int .i64) (by decide) _ _ (by simp) id #[.int .i64 id] _ rfl); rw [hc]; rintro e w1 ⟨rfl, hb1⟩; have HB1 := Lib.hid (keepB0 hb1 HB0.out); have HK1 := Lib.hid (blk_below hb1 (blk_alloc (blk_new w #[.int .i64 id, .string s, .slice A2 l.length c2] 24) (.cells #[.int .i64 id] 3))); clear hb1; have kc0 := blk_cell HK1.out 0; simp only [List.getElem?_toArray, List.getElem?_cons_zero, List.getElem?_cons_succ] at kc0)
        | (go_at_call 68; refine (HV.out _ HB1.out).mono ?_; rintro e w2 ⟨rfl, rfl⟩; have k12 := blk_cell (blk_alloc HK1.out (.cells #[] 117)) 2; simp only [List.getElem?_toArray, List.getElem?_cons_zero, List.getElem?_cons_succ] at k12; have HR0 := R_lits kPrp (W := w1) (base := w.heap.size) (T := 117) [] #[] ⟨rfl, fun j p hj => by simp at hj⟩ HB1.out.size (by simp); obtain ⟨v5, w5, hr5, hR5, hg5, -⟩ := run_app_rows (P := Try.prog) (ty := 22) (c := c2) kPrp Try.underlying22 info_Prop2 rfl (by decide) (by decide) HR0 (Kd.C_alloc (Kd.C_below HX.out HB1.out) (.cells #[] 117)) (okp := fun k => False) (fun x cs hK => by obtain rfl := kPrp_open hK; exact kPrp_mkM _ _ _ _) (fun k hk => hk.elim) (fun _ _ => trivial) (by have := HB1.out.size; simp; omega) (by simp; omega); have hb5 := Lib.hid (show Below w1.heap.size w1 w5 from (below_al w1 (.cells #[] 117)).grown hg5 (by simp) (fun k hk => by simp [Value.ownBlock] at hk; omega)); rw [List.nil_append] at hR5; obtain ⟨A5, c5, rfl, hlc, -⟩ := Kd.R_reads hR5; have HP5 := Lib.hid hR5; have HB5 := Lib.hid (keepB0 hb5.out HB1.out); have HK5 := Lib.hid (blk_below hb5.out HK1.out); clear hR5 HR0 hg5 hb5; have kf5 := blk_frozen HK5.out 2; have kc5 := blk_cell HK5.out 2; simp only [List.getElem?_toArray, List.getElem?_cons_zero, List.getElem?_cons_succ] at kc5)
        | (at_builtin; refine list_app rfl rfl rfl rfl hr5 ?_))
      have HK6 : Hid (Blk (w5.setCell ⟨w.heap.size, 2, none⟩ (.slice A5 l.length c5)) w.heap.size #[.int .i64 id, .string s, .slice A5 l.length c5] 24) := Lib.hid (blk_set HK5.out 2 (.slice A5 l.length c5))
      have HB6 := Lib.hid (HB5.out.setCell (p := ⟨w.heap.size, 2, none⟩) (Nat.le_refl _) (.slice A5 l.length c5))
      have HP6 := Lib.hid (Kd.R_set HP5.out HK5.out (by decide) 2 (.slice A5 l.length c5))
      clear kc0 k12 kf5 kc5 hr5 HK5 HB5 HP5
      generalize w5.setCell ⟨w.heap.size, 2, none⟩ (.slice A5 l.length c5) = w6 at HK6 HB6 HP6 ⊢
      go_loopw [6] (fun v6 wr => ∃ (k : Nat), k ≤ vs.length ∧ v6 = .int .i64 k ∧ Hid (Quiet w6 wr) ∧ Hid (∀ y ∈ vs.take k, y.f0 < id)) (fun v6 _ => vs.length - (intOf v6).toNat)
      case atStart => exact ⟨0, by omega, rfl, Lib.hid (quiet_refl _), Lib.hid (by simp)⟩
      case round =>
        obtain ⟨k, hk, rfl, HQ, HL⟩ := hrel
        have HB7 := Lib.hid (show Below w.heap.size w wr from HB6.out.trans (quiet_below HQ.out _))
        have HK7 := Lib.hid (blk_below (quiet_below HQ.out _) HK6.out)
        have HP7 := Lib.hid (Kd.R_below HP6.out (quiet_below HQ.out _))
        have hkr := blk_cell (blk_below HB7.out HR.out.blk) 0
        have hkb := blk_cell HK7.out 0
        simp only [List.getElem?_toArray, List.getElem?_cons_zero, List.getElem?_cons_succ] at hkr hkb
        by_cases hlt : k < vs.length
        · have hlt2 : (k : Int) < (vs.length : Int) := by omega
          obtain ⟨ad, A3, c3, rfl, g0, -⟩ := at_Vert (Kd.F_now (HVR.out wr HB7.out)) (k : Int) (by omega) (by omega)
          simp only [Int.toNat_natCast, rd_Vert] at g0
          have HT := Lib.hid (take_more vs k zVert hlt)
          have hne := HNE.out (vs.getD k zVert) (by simp [List.getD_eq_getElem?_getD, List.getElem?_eq_getElem hlt])
          by_cases h0 : (vs.getD k zVert).f0 < id
          · have HL2 : Hid (∀ y ∈ vs.take (k + 1), y.f0 < id) := Lib.hid (by
              rw [HT.out]
              intro a ha
              rcases List.mem_append.1 ha with ha | ha
              · exact HL.out a ha
              · rw [List.mem_singleton] at ha; rw [ha]; exact h0)
            generalize (vs.getD k zVert).f0 = y at g0 h0 hne
            go_wp2_with fail
            go_big_quiet (fail)
            go_wp2
            go_roundw
            case rel => exact ⟨k + 1, by omega, by go_num, Lib.hid (quiet_step HQ.out _), HL2⟩
            case measure => simp [intOf]; omega
          · have HINS := Lib.hid (insK_place (key := SVert.f0) (x := ⟨id, s, l⟩) vs k hk (fun y hy => Int.le_of_lt (HL.out y hy)) (fun z _ => by
              have : vs.getD k z = vs.getD k zVert := by simp [List.getD_eq_getElem?_getD, List.getElem?_eq_getElem hlt]
              rw [this]; simp only; omega))
            generalize (vs.getD k zVert).f0 = y at g0 h0 hne
            go_wp2_with fail
            go_big_quiet (fail)
            have HB7 := Lib.hid (pw_below_drewN HB7.out nq)
            have HK7 := Lib.hid (blk_below (pw_below_drewN (Below.refl _ wr) nq) HK7.out)
            have HP7 := Lib.hid (Kd.R_below HP7.out (pw_below_drewN (Below.refl _ wr) nq))
            generalize wr.drewN nq = wr7 at HB7 HK7 HP7 ⊢
            obtain ⟨iV, hiV, -, hzV, -⟩ := info_parts info_Vert
            obtain ⟨A11, hcut1, hF1⟩ := cut_to 32 24 Try.underlying32 hiV kVert hzV (some ad) c k vs hk HR.out.lv
            obtain ⟨A12, hcut2, hF2⟩ := cut_from 32 24 Try.underlying32 hiV kVert hzV (some ad) c k vs hk HR.out.lv
            have HF1 := Lib.hid hF1
            have HF2 := Lib.hid hF2
            clear hF1 hF2 hiV hzV hkr hkb
            have hkr := blk_cell (blk_below HB7.out HR.out.blk) 0
            simp only [List.getElem?_toArray, List.getElem?_cons_zero, List.getElem?_cons_succ] at hkr
            have HLIST := Lib.hid (show vs.take k ++ [⟨id, s, l⟩] ++ vs.drop k = insK SVert.f0 ⟨id, s, l⟩ vs by rw [HINS.out]; simp)
            go_wp2_with (first
              | (at_builtin; clear p1; (refine appN_rows (Kd.N_nil kVert 24 wr7 w.heap.size ok) info_Vert Try.underlying32 (HF1.out wr7 _ (HVR.out wr7 HB7.out)) (fun k hk => ⟨hk.1, by simp [Value.ownBlock]⟩) (fun k hk => HOK.out k (Nat.le_trans HB7.out.size hk)) HB7.out.size (by simp; omega) rfl (by decide) (by decide) rfl rfl rfl rfl ?_); intro v8 w8 hN8 hb8 hg8; rw [List.nil_append] at hN8; have hbn := below_none hg8; have HN8 := Lib.hid hN8; have HB8 := Lib.hid (keepB0 hbn HB7.out); have HK8 := Lib.hid (blk_below hbn HK7.out); have HP8 := Lib.hid (Kd.R_below HP7.out hbn); clear hN8 hb8 hg8 hbn; have k80 := blk_cell HK8.out 0; have k81 := blk_cell HK8.out 1; have k82 := blk_cell HK8.out 2; simp only [List.getElem?_toArray, List.getElem?_cons_zero, List.getElem?_cons_succ] at k80 k81 k82)
              | (at_builtin; clear p2; (refine appN_one HN8.out info_Vert Try.underlying32 (p := ⟨id, s, l⟩) (FK_Vert (x := ⟨id, s, l⟩) hlc (Kd.F_mono (ok' := fun k => ok k ∧ some k ≠ v8.ownBlock) (Kd.R_F (Kd.R_bound (Kd.R_apart' HP8.out (Kd.N_typed HN8.out) (by decide)))) (fun k hk => ⟨HOK.out k hk.2.1, hk.1.2⟩))) (fun k hk => hk) (fun k hk => HOK.out k (Nat.le_trans HB8.out.size hk)) HB8.out.size (by rw [List.length_take]; omega) rfl (by decide) (by decide) rfl rfl rfl rfl ?_); intro v9 w9 hN9 hb9 hg9; have HN9 := Lib.hid hN9; have HB9 := Lib.hid (HB8.out.trans hb9); clear hN9 hb9 hg9; have hkr9 := blk_cell (blk_below HB9.out HR.out.blk) 0; simp only [List.getElem?_toArray, List.getElem?_cons_zero, List.getElem?_cons_succ] at hkr9)
              | (at_builtin; (refine appN_rows HN9.out info_Vert Try.underlying32 (HF2.out w9 _ (HVR.out w9 HB9.out)) (fun k hk => ⟨hk.1, fun e => by have := Kd.N_base HN9.out k e.symm; have := hk.2; omega⟩) (fun k hk => HOK.out k (Nat.le_trans HB9.out.size hk)) HB9.out.size (by rw [List.length_append, List.length_take]; simp; omega) rfl (by decide) (by decide) rfl rfl rfl rfl ?_); intro v10 w10 hN10 hb10 hg10; rw [HLIST.out] at hN10; obtain ⟨A10, c10, rfl⟩ := Kd.N_slice hN10; have HN10 := Lib.hid hN10; have HB10 := Lib.hid (HB9.out.trans hb10); clear hN10 hb10 hg10; have hf10 := blk_frozen (blk_below HB10.out HR.out.blk) 0; have hk10 := blk_cell (blk_below HB10.out HR.out.blk) 0; simp only [List.getElem?_toArray, List.getElem?_cons_zero, List.getElem?_cons_succ] at hk10))
            go_ret
            have hN := HN10.out
            refine ⟨A10, c10, ?_⟩
            rw [HD.out]
            refine ⟨rfl, ?_, (But.of_below _ HB10.out).trans (But.set _ _ _ rfl)⟩
            refine ⟨HR.out.nok, ?_, ?_, Below.le_ HR.out.le, ?_, ?_⟩
            · have := blk_set (blk_below HB10.out HR.out.blk) 0 (.slice A10 (insK SVert.f0 ⟨id, s, l⟩ vs).length c10)
              simpa using this
            · exact (Kd.N_reads' hN).2.1
            · exact Kd.F_far (Kd.N_F hN) (fun k hk e => HR.out.nok (by rw [← (show k = r from e)]; exact hk)) _
            · exact Kd.F_far (Kd.F_mono (Kd.F_below (Kd.F_bound HR.out.er) HB10.out) (fun k hk => hk.1)) (fun k hk e => HR.out.nok (by rw [← (show k = r from e)]; exact hk)) _
        · have hlt2 : ¬ (k : Int) < (vs.length : Int) := by omega
          have HINS := Lib.hid (insK_place (key := SVert.f0) (x := ⟨id, s, l⟩) vs k hk (fun y hy => Int.le_of_lt (HL.out y hy)) (fun z h => absurd h hlt))
          go_wp2_with fail
          go_big_quiet (fail)
          have HB7 := Lib.hid (pw_below_drewN HB7.out nq)
          have HK7 := Lib.hid (blk_below (pw_below_drewN (Below.refl _ wr) nq) HK7.out)
          have HP7 := Lib.hid (Kd.R_below HP7.out (pw_below_drewN (Below.refl _ wr) nq))
          generalize wr.drewN nq = wr7 at HB7 HK7 HP7 ⊢
          obtain ⟨iV, hiV, -, hzV, -⟩ := info_parts info_Vert
          obtain ⟨A11, hcut1, hF1⟩ := cut_to 32 24 Try.underlying32 hiV kVert hzV A c k vs hk HR.out.lv
          obtain ⟨A12, hcut2, hF2⟩ := cut_from 32 24 Try.underlying32 hiV kVert hzV A c k vs hk HR.out.lv
          have HF1 := Lib.hid hF1
          have HF2 := Lib.hid hF2
          clear hF1 hF2 hiV hzV hkr hkb
          have hkr := blk_cell (blk_below HB7.out HR.out.blk) 0
          simp only [List.getElem?_toArray, List.getElem?_cons_zero, List.getElem?_cons_succ] at hkr
          have HLIST := Lib.hid (show vs.take k ++ [⟨id, s, l⟩] ++ vs.drop k = insK SVert.f0 ⟨id, s, l⟩ vs by rw [HINS.out]; simp)
          go_wp2_with (first
            | (at_builtin; clear p1; (refine appN_rows (Kd.N_nil kVert 24 wr7 w.heap.size ok) info_Vert Try.underlying32 (HF1.out wr7 _ (HVR.out wr7 HB7.out)) (fun k hk => ⟨hk.1, by simp [Value.ownBlock]⟩) (fun k hk => HOK.out k (Nat.le_trans HB7.out.size hk)) HB7.out.size (by simp; omega) rfl (by decide) (by decide) rfl rfl rfl rfl ?_); intro v8 w8 hN8 hb8 hg8; rw [List.nil_append] at hN8; have hbn := below_none hg8; have HN8 := Lib.hid hN8; have HB8 := Lib.hid (keepB0 hbn HB7.out); have HK8 := Lib.hid (blk_below hbn HK7.out); have HP8 := Lib.hid (Kd.R_below HP7.out hbn); clear hN8 hb8 hg8 hbn; have k80 := blk_cell HK8.out 0; have k81 := blk_cell HK8.out 1; have k82 := blk_cell HK8.out 2; simp only [List.getElem?_toArray, List.getElem?_cons_zero, List.getElem?_cons_succ] at k80 k81 k82)
            | (at_builtin; clear p2; (refine appN_one HN8.out info_Vert Try.underlying32 (p := ⟨id, s, l⟩) (FK_Vert (x := ⟨id, s, l⟩) hlc (Kd.F_mono (ok' := fun k => ok k ∧ some k ≠ v8.ownBlock) (Kd.R_F (Kd.R_bound (Kd.R_apart' HP8.out (Kd.N_typed HN8.out) (by decide)))) (fun k hk => ⟨HOK.out k hk.2.1, hk.1.2⟩))) (fun k hk => hk) (fun k hk => HOK.out k (Nat.le_trans HB8.out.size hk)) HB8.out.size (by rw [List.length_take]; omega) rfl (by decide) (by decide) rfl rfl rfl rfl ?_); intro v9 w9 hN9 hb9 hg9; have HN9 := Lib.hid hN9; have HB9 := Lib.hid (HB8.out.trans hb9); clear hN9 hb9 hg9; have hkr9 := blk_cell (blk_below HB9.out HR.out.blk) 0; simp only [List.getElem?_toArray, List.getElem?_cons_zero, List.getElem?_cons_succ] at hkr9)
            | (at_builtin; (refine appN_rows HN9.out info_Vert Try.underlying32 (HF2.out w9 _ (HVR.out w9 HB9.out)) (fun k hk => ⟨hk.1, fun e => by have := Kd.N_base HN9.out k e.symm; have := hk.2; omega⟩) (fun k hk => HOK.out k (Nat.le_trans HB9.out.size hk)) HB9.out.size (by rw [List.length_append, List.length_take]; simp; omega) rfl (by decide) (by decide) rfl rfl rfl rfl ?_); intro v10 w10 hN10 hb10 hg10; rw [HLIST.out] at hN10; obtain ⟨A10, c10, rfl⟩ := Kd.N_slice hN10; have HN10 := Lib.hid hN10; have HB10 := Lib.hid (HB9.out.trans hb10); clear hN10 hb10 hg10; have hf10 := blk_frozen (blk_below HB10.out HR.out.blk) 0; have hk10 := blk_cell (blk_below HB10.out HR.out.blk) 0; simp only [List.getElem?_toArray, List.getElem?_cons_zero, List.getElem?_cons_succ] at hk10))
          go_ret
          have hN := HN10.out
          refine ⟨A10, c10, ?_⟩
          rw [HD.out]
          refine ⟨rfl, ?_, (But.of_below _ HB10.out).trans (But.set _ _ _ rfl)⟩
          refine ⟨HR.out.nok, ?_, ?_, Below.le_ HR.out.le, ?_, ?_⟩
          · have := blk_set (blk_below HB10.out HR.out.blk) 0 (.slice A10 (insK SVert.f0 ⟨id, s, l⟩ vs).length c10)
            simpa using this
          · exact (Kd.N_reads' hN).2.1
          · exact Kd.F_far (Kd.N_F hN) (fun k hk e => HR.out.nok (by rw [← (show k = r from e)]; exact hk)) _
          · exact Kd.F_far (Kd.F_mono (Kd.F_below (Kd.F_bound HR.out.er) HB10.out) (fun k hk => hk.1)) (fun k hk e => HR.out.nok (by rw [← (show k = r from e)]; exact hk)) _
  · rw [if_neg hc] at HD
    go_enter Try.func123, Try.ntmps123
    go_wp2_with (go_at_call 36; refine (ref16_Check_calls s A2 _ c2 1 l [id] _ hs (Kd.C_below HX.out HB0.out) HF.out ?hI).mono ?_; (case hI => exact C_boxg (Kd.int .i64) (by decide) _ _ (by simp) id #[.int .i64 id] _ rfl); rintro e w1 ⟨rfl, hb1⟩; have HB1 := Lib.hid (keepB0 hb1 HB0.out); clear hb1)
    go_ret
    refine ⟨A, c, ?_⟩
    rw [HD.out]
    exact ⟨rfl, HR.out.below HB1.out, But.of_below _ HB1.out⟩
end Go.Proofs.Ytonbnlfijmapfaa
/- cobwebref16.Graph.AddEdge. No condition but on sizes. -/
namespace Go.Proofs.Ytonbnlfijmapfaa
open Go.RowKit Go.Shelf Go.Proofs.YtonbnlfijmapfaaW.PrintWords
set_option linter.unusedVariables false
set_option linter.unusedSimpArgs false

set_option maxRecDepth 100000 in
set_option maxHeartbeats 16000000 in
theorem ref16_AddEdge_calls (ok : Nat → Prop) (r c d : Nat) (A B : Option Addr) (vs : List SVert) (es : List SEdg) (id : Int) (s : ByteArray) (x y : Int) (A2 : Option Addr) (c2 : Nat) (l : List SPrp) (w : World) (hR : RefAt w ok r A c B d vs es) (hok : ∀ k, w.heap.size ≤ k → ok k)
    (h : kPrp.C w A2 l.length l) (hf : fits l) (hs : s.size ≤ 2000000) (hn : es.length ≤ 100000) :
    Calls Try.prog 124 #[.pointer (some ⟨r, 0, none⟩), .agg #[.int .i64 id, .string s, .int .i64 x, .int .i64 y, .slice A2 l.length c2]] w fun e w' => ∃ A' c', e = .returned (.int .i64 (addE vs es ⟨id, s, x, y, l⟩).2) ∧ RefAt w' ok r A c A' c' vs (addE vs es ⟨id, s, x, y, l⟩).1 ∧ But (fun k => k = r) w w' := by
  have HX := Lib.hid h; clear h
  have HF := Lib.hid hf; clear hf
  have HR := Lib.hid hR; clear hR
  have HOK := Lib.hid hok; clear hok
  have p1 : True := trivial
  have p2 : True := trivial
  have HD := Lib.hid (show addE vs es ⟨id, s, x, y, l⟩ = (if checkN s l [id, x, y] = 0 then (if (findK SEdg.f0 es id).isSome = true then (es, 31) else if (findK SVert.f0 vs x).isSome = true ∧ (findK SVert.f0 vs y).isSome = true then (insK SEdg.f0 ⟨id, s, x, y, l⟩ es, 0) else (es, 101)) else (es, checkN s l [id, x, y])) from rfl)
  have HVV := Lib.hid (fun n W hW => ref16_V_calls ok r c d A B vs es n W (HR.out.below hW))
  have p3 : True := trivial
  have p4 : True := trivial
  have HB0 := Lib.hid (keepB0 (below_al (w.alloc (.cells #[.int .i64 id, .string s, .int .i64 x, .int .i64 y, .slice A2 l.length c2] 35)) (.cells #[.int .i64 id, .int .i64 x, .int .i64 y] 3)) (below_al w (.cells #[.int .i64 id, .string s, .int .i64 x, .int .i64 y, .slice A2 l.length c2] 35)))
  by_cases hc : checkN s l [id, x, y] = 0
  · rw [if_pos hc] at HD
    have h16 := (propsRight_ok (checkN_ok hc).2.2).2
    cases hfd : (findK SEdg.f0 es id).isSome with
    | true =>
      rw [hfd] at HD
      simp only [if_true] at HD
      have hp0 := placeK_found.2 hfd
      have HV := Lib.hid (fun W hW => ref16_E_calls ok r c d A B vs es id W (HR.out.below hW))
      generalize placeK SEdg.f0 es id = pl at hp0 HV
      go_enter Try.func124, Try.ntmps124
      go_wp2_with (first
        | (go_at_call 36; refine (ref16_Check_calls s A2 _ c2 3 l [id, x, y] _ hs (Kd.C_below HX.out HB0.out) HF.out ?hI).mono ?_; (case hI => exact C_boxesg (by simp) [id, x, y] .i64 (by simp)); rw [hc]; rintro e w1 ⟨rfl, hb1⟩; have HB1 := Lib.hid (keepB0 hb1 HB0.out); have HK1 := Lib.hid (blk_below hb1 (blk_alloc (blk_new w #[.int .i64 id, .string s, .int .i64 x, .int .i64 y, .slice A2 l.length c2] 35) (.cells #[.int .i64 id, .int .i64 x, .int .i64 y] 3))); clear hb1; have kc0 := blk_cell HK1.out 0; simp only [List.getElem?_toArray, List.getElem?_cons_zero, List.getElem?_cons_succ] at kc0)
        | (go_at_call 136; refine (HV.out _ HB1.out).mono ?_; rintro e w2 ⟨rfl, rfl⟩))
      go_ret
      refine ⟨B, d, ?_⟩
      rw [HD.out]
      exact ⟨rfl, HR.out.below HB1.out, But.of_below _ HB1.out⟩
    | false =>
      rw [hfd] at HD
      simp only [Bool.false_eq_true, if_false] at HD
      have hp0 : ¬ (0 : Int) ≤ placeK SEdg.f0 es id := fun e => by rw [placeK_found.1 e] at hfd; cases hfd
      have HV := Lib.hid (fun W hW => ref16_E_calls ok r c d A B vs es id W (HR.out.below hW))
      have HNE : Hid (∀ z ∈ es, z.f0 ≠ id) := Lib.hid (fun y hy e => by
        have : findK SEdg.f0 es id = none := by cases h : findK SEdg.f0 es id with | none => rfl | some z => rw [h] at hfd; cases hfd
        rw [findK, List.find?_eq_none] at this
        have := this y hy
        simp [e] at this)
      have HVR : Hid (∀ W, Below w.heap.size w W → Kd.F kEdg W (fun k => ok k ∧ k < w.heap.size) B es.length es) := Lib.hid (fun W hW => Kd.F_below (Kd.F_bound HR.out.er) hW)
      generalize placeK SEdg.f0 es id = pl at hp0 HV
      have HD2 := Lib.hid HD.out
      cases hfx : (findK SVert.f0 vs x).isSome with
      | false =>
        rw [if_neg (by rw [hfx]; simp)] at HD
        have hpx : placeK SVert.f0 vs x < 0 := Int.not_le.1 (fun e => by rw [placeK_found.1 e] at hfx; cases hfx)
        go_enter Try.func124, Try.ntmps124
        go_wp2_with (first
          | (go_at_call 36; refine (ref16_Check_calls s A2 _ c2 3 l [id, x, y] _ hs (Kd.C_below HX.out HB0.out) HF.out ?hI).mono ?_; (case hI => exact C_boxesg (by simp) [id, x, y] .i64 (by simp)); rw [hc]; rintro e w1 ⟨rfl, hb1⟩; have HB1 := Lib.hid (keepB0 hb1 HB0.out); have HK1 := Lib.hid (blk_below hb1 (blk_alloc (blk_new w #[.int .i64 id, .string s, .int .i64 x, .int .i64 y, .slice A2 l.length c2] 35) (.cells #[.int .i64 id, .int .i64 x, .int .i64 y] 3))); clear hb1; have kc0 := blk_cell HK1.out 0; simp only [List.getElem?_toArray, List.getElem?_cons_zero, List.getElem?_cons_succ] at kc0)
          | (go_at_call 136; refine (HV.out _ HB1.out).mono ?_; rintro e w2 ⟨rfl, rfl⟩; have kc2 := blk_cell HK1.out 2; simp only [List.getElem?_toArray, List.getElem?_cons_zero, List.getElem?_cons_succ] at kc2)
          | (go_at_call 68; refine (HVV.out x _ HB1.out).mono ?_; rintro e w2 ⟨rfl, rfl⟩))
        go_ret
        refine ⟨B, d, ?_⟩
        rw [HD.out]
        exact ⟨rfl, HR.out.below HB1.out, But.of_below _ HB1.out⟩
      | true =>
      have hpx : ¬ placeK SVert.f0 vs x < 0 := Int.not_lt.2 (placeK_found.2 hfx)
      cases hfy : (findK SVert.f0 vs y).isSome with
      | false =>
        rw [if_neg (by rw [hfy]; simp)] at HD
        have hpy : placeK SVert.f0 vs y < 0 := Int.not_le.1 (fun e => by rw [placeK_found.1 e] at hfy; cases hfy)
        go_enter Try.func124, Try.ntmps124
        go_wp2_with (first
          | (go_at_call 36; refine (ref16_Check_calls s A2 _ c2 3 l [id, x, y] _ hs (Kd.C_below HX.out HB0.out) HF.out ?hI).mono ?_; (case hI => exact C_boxesg (by simp) [id, x, y] .i64 (by simp)); rw [hc]; rintro e w1 ⟨rfl, hb1⟩; have HB1 := Lib.hid (keepB0 hb1 HB0.out); have HK1 := Lib.hid (blk_below hb1 (blk_alloc (blk_new w #[.int .i64 id, .string s, .int .i64 x, .int .i64 y, .slice A2 l.length c2] 35) (.cells #[.int .i64 id, .int .i64 x, .int .i64 y] 3))); clear hb1; have kc0 := blk_cell HK1.out 0; simp only [List.getElem?_toArray, List.getElem?_cons_zero, List.getElem?_cons_succ] at kc0)
          | (go_at_call 136; refine (HV.out _ HB1.out).mono ?_; rintro e w2 ⟨rfl, rfl⟩; have kc2 := blk_cell HK1.out 2; have kc3 := blk_cell HK1.out 3; simp only [List.getElem?_toArray, List.getElem?_cons_zero, List.getElem?_cons_succ] at kc2 kc3)
          | (go_at_call 68; clear p3; refine (HVV.out x _ HB1.out).mono ?_; rintro e w2 ⟨rfl, rfl⟩)
          | (go_at_call 68; refine (HVV.out y _ HB1.out).mono ?_; rintro e w2 ⟨rfl, rfl⟩))
        go_ret
        refine ⟨B, d, ?_⟩
        rw [HD.out]
        exact ⟨rfl, HR.out.below HB1.out, But.of_below _ HB1.out⟩
      | true =>
      have hpy : ¬ placeK SVert.f0 vs y < 0 := Int.not_lt.2 (placeK_found.2 hfy)
      rw [if_pos ⟨hfx, hfy⟩] at HD
      go_enter Try.func124, Try.ntmps124
      go_wp2_with (first
        | (go_at_call 36; refine (ref16_Check_calls s A2 _ c2 3 l [id, x, y] _ hs (Kd.C_below HX.out HB0.out) HF.out ?hI).mono ?_; (case hI => exact C_boxesg (by simp) [id, x, y] .i64 (by simp)); rw [hc]; rintro e w1 ⟨rfl, hb1⟩; have HB1 := Lib.hid (keepB0 hb1 HB0.out); have HK1 := Lib.hid (blk_below hb1 (blk_alloc (blk_new w #[.int .i64 id, .string s, .int .i64 x, .int .i64 y, .slice A2 l.length c2] 35) (.cells #[.int .i64 id, .int .i64 x, .int .i64 y] 3))); clear hb1; have kc0 := blk_cell HK1.out 0; simp only [List.getElem?_toArray, List.getElem?_cons_zero, List.getElem?_cons_succ] at kc0)
        | (go_at_call 136; refine (HV.out _ HB1.out).mono ?_; rintro e w2 ⟨rfl, rfl⟩; have kc2 := blk_cell HK1.out 2; have kc3 := blk_cell HK1.out 3; simp only [List.getElem?_toArray, List.getElem?_cons_zero, List.getElem?_cons_succ] at kc2 kc3)
        | (go_at_call 68; clear p3; refine (HVV.out x _ HB1.out).mono ?_; rintro e w2 ⟨rfl, rfl⟩)
        | (go_at_call 68; clear p4; refine (HVV.out y _ HB1.out).mono ?_; rintro e w2 ⟨rfl, rfl⟩; have k12 := blk_cell (blk_alloc HK1.out (.cells #[] 117)) 4; simp only [List.getElem?_toArray, List.getElem?_cons_zero, List.getElem?_cons_succ] at k12; have HR0 := R_lits kPrp (W := w1) (base := w.heap.size) (T := 117) [] #[] ⟨rfl, fun j p hj => by simp at hj⟩ HB1.out.size (by simp); obtain ⟨v5, w5, hr5, hR5, hg5, -⟩ := run_app_rows (P := Try.prog) (ty := 22) (c := c2) kPrp Try.underlying22 info_Prop2 rfl (by decide) (by decide) HR0 (Kd.C_alloc (Kd.C_below HX.out HB1.out) (.cells #[] 117)) (okp := fun k => False) (fun x cs hK => by obtain rfl := kPrp_open hK; exact kPrp_mkM _ _ _ _) (fun k hk => hk.elim) (fun _ _ => trivial) (by have := HB1.out.size; simp; omega) (by simp; omega); have hb5 := Lib.hid (show Below w1.heap.size w1 w5 from (below_al w1 (.cells #[] 117)).grown hg5 (by simp) (fun k hk => by simp [Value.ownBlock] at hk; omega)); rw [List.nil_append] at hR5; obtain ⟨A5, c5, rfl, hlc, -⟩ := Kd.R_reads hR5; have HP5 := Lib.hid hR5; have HB5 := Lib.hid (keepB0 hb5.out HB1.out); have HK5 := Lib.hid (blk_below hb5.out HK1.out); clear hR5 HR0 hg5 hb5; have kf5 := blk_frozen HK5.out 4; have kc5 := blk_cell HK5.out 4; simp only [List.getElem?_toArray, List.getElem?_cons_zero, List.getElem?_cons_succ] at kc5)
        | (at_builtin; refine list_app rfl rfl rfl rfl hr5 ?_))
      have HK6 : Hid (Blk (w5.setCell ⟨w.heap.size, 4, none⟩ (.slice A5 l.length c5)) w.heap.size #[.int .i64 id, .string s, .int .i64 x, .int .i64 y, .slice A5 l.length c5] 35) := Lib.hid (blk_set HK5.out 4 (.slice A5 l.length c5))
      have HB6 := Lib.hid (HB5.out.setCell (p := ⟨w.heap.size, 4, none⟩) (Nat.le_refl _) (.slice A5 l.length c5))
      have HP6 := Lib.hid (Kd.R_set HP5.out HK5.out (by decide) 4 (.slice A5 l.length c5))
      clear kc0 kc2 kc3 k12 kf5 kc5 hr5 HK5 HB5 HP5
      generalize w5.setCell ⟨w.heap.size, 4, none⟩ (.slice A5 l.length c5) = w6 at HK6 HB6 HP6 ⊢
      go_loopw [6] (fun v6 wr => ∃ (k : Nat), k ≤ es.length ∧ v6 = .int .i64 k ∧ Hid (Quiet w6 wr) ∧ Hid (∀ y ∈ es.take k, y.f0 < id)) (fun v6 _ => es.length - (intOf v6).toNat)
      case atStart => exact ⟨0, by omega, rfl, Lib.hid (quiet_refl _), Lib.hid (by simp)⟩
      case round =>
        obtain ⟨k, hk, rfl, HQ, HL⟩ := hrel
        have HB7 := Lib.hid (show Below w.heap.size w wr from HB6.out.trans (quiet_below HQ.out _))
        have HK7 := Lib.hid (blk_below (quiet_below HQ.out _) HK6.out)
        have HP7 := Lib.hid (Kd.R_below HP6.out (quiet_below HQ.out _))
        have hkr := blk_cell (blk_below HB7.out HR.out.blk) 1
        have hkb := blk_cell HK7.out 0
        simp only [List.getElem?_toArray, List.getElem?_cons_zero, List.getElem?_cons_succ] at hkr hkb
        by_cases hlt : k < es.length
        · have hlt2 : (k : Int) < (es.length : Int) := by omega
          obtain ⟨ad, A3, c3, rfl, g0, -⟩ := at_Edg (Kd.F_now (HVR.out wr HB7.out)) (k : Int) (by omega) (by omega)
          simp only [Int.toNat_natCast, rd_Edg] at g0
          have HT := Lib.hid (take_more es k zEdg hlt)
          have hne := HNE.out (es.getD k zEdg) (by simp [List.getD_eq_getElem?_getD, List.getElem?_eq_getElem hlt])
          by_cases h0 : (es.getD k zEdg).f0 < id
          · have HL2 : Hid (∀ y ∈ es.take (k + 1), y.f0 < id) := Lib.hid (by
              rw [HT.out]
              intro a ha
              rcases List.mem_append.1 ha with ha | ha
              · exact HL.out a ha
              · rw [List.mem_singleton] at ha; rw [ha]; exact h0)
            generalize (es.getD k zEdg).f0 = yy at g0 h0 hne
            go_wp2_with fail
            go_big_quiet (fail)
            go_wp2
            go_roundw
            case rel => exact ⟨k + 1, by omega, by go_num, Lib.hid (quiet_step HQ.out _), HL2⟩
            case measure => simp [intOf]; omega
          · have HINS := Lib.hid (insK_place (key := SEdg.f0) (x := ⟨id, s, x, y, l⟩) es k hk (fun y hy => Int.le_of_lt (HL.out y hy)) (fun z _ => by
              have : es.getD k z = es.getD k zEdg := by simp [List.getD_eq_getElem?_getD, List.getElem?_eq_getElem hlt]
              rw [this]; simp only; omega))
            generalize (es.getD k zEdg).f0 = yy at g0 h0 hne
            go_wp2_with fail
            go_big_quiet (fail)
            have HB7 := Lib.hid (pw_below_drewN HB7.out nq)
            have HK7 := Lib.hid (blk_below (pw_below_drewN (Below.refl _ wr) nq) HK7.out)
            have HP7 := Lib.hid (Kd.R_below HP7.out (pw_below_drewN (Below.refl _ wr) nq))
            generalize wr.drewN nq = wr7 at HB7 HK7 HP7 ⊢
            obtain ⟨iV, hiV, -, hzV, -⟩ := info_parts info_Edg
            obtain ⟨A11, hcut1, hF1⟩ := cut_to 72 35 Try.underlying72 hiV kEdg hzV (some ad) d k es hk HR.out.le
            obtain ⟨A12, hcut2, hF2⟩ := cut_from 72 35 Try.underlying72 hiV kEdg hzV (some ad) d k es hk HR.out.le
            have HF1 := Lib.hid hF1
            have HF2 := Lib.hid hF2
            clear hF1 hF2 hiV hzV hkr hkb
            have hkr := blk_cell (blk_below HB7.out HR.out.blk) 1
            simp only [List.getElem?_toArray, List.getElem?_cons_zero, List.getElem?_cons_succ] at hkr
            have HLIST := Lib.hid (show es.take k ++ [⟨id, s, x, y, l⟩] ++ es.drop k = insK SEdg.f0 ⟨id, s, x, y, l⟩ es by rw [HINS.out]; simp)
            go_wp2_with (first
              | (at_builtin; clear p1; (refine appN_rows (Kd.N_nil kEdg 35 wr7 w.heap.size ok) info_Edg Try.underlying72 (HF1.out wr7 _ (HVR.out wr7 HB7.out)) (fun k hk => ⟨hk.1, by simp [Value.ownBlock]⟩) (fun k hk => HOK.out k (Nat.le_trans HB7.out.size hk)) HB7.out.size (by simp; omega) rfl (by decide) (by decide) rfl rfl rfl rfl ?_); intro v8 w8 hN8 hb8 hg8; rw [List.nil_append] at hN8; have hbn := below_none hg8; have HN8 := Lib.hid hN8; have HB8 := Lib.hid (keepB0 hbn HB7.out); have HK8 := Lib.hid (blk_below hbn HK7.out); have HP8 := Lib.hid (Kd.R_below HP7.out hbn); clear hN8 hb8 hg8 hbn; have k80 := blk_cell HK8.out 0; have k81 := blk_cell HK8.out 1; have k82 := blk_cell HK8.out 2; have k83 := blk_cell HK8.out 3; have k84 := blk_cell HK8.out 4; simp only [List.getElem?_toArray, List.getElem?_cons_zero, List.getElem?_cons_succ] at k80 k81 k82 k83 k84)
              | (at_builtin; clear p2; (refine appN_one HN8.out info_Edg Try.underlying72 (p := ⟨id, s, x, y, l⟩) (FK_Edg (x := ⟨id, s, x, y, l⟩) hlc (Kd.F_mono (ok' := fun k => ok k ∧ some k ≠ v8.ownBlock) (Kd.R_F (Kd.R_bound (Kd.R_apart' HP8.out (Kd.N_typed HN8.out) (by decide)))) (fun k hk => ⟨HOK.out k hk.2.1, hk.1.2⟩))) (fun k hk => hk) (fun k hk => HOK.out k (Nat.le_trans HB8.out.size hk)) HB8.out.size (by rw [List.length_take]; omega) rfl (by decide) (by decide) rfl rfl rfl rfl ?_); intro v9 w9 hN9 hb9 hg9; have HN9 := Lib.hid hN9; have HB9 := Lib.hid (HB8.out.trans hb9); clear hN9 hb9 hg9; have hkr9 := blk_cell (blk_below HB9.out HR.out.blk) 1; simp only [List.getElem?_toArray, List.getElem?_cons_zero, List.getElem?_cons_succ] at hkr9)
              | (at_builtin; (refine appN_rows HN9.out info_Edg Try.underlying72 (HF2.out w9 _ (HVR.out w9 HB9.out)) (fun k hk => ⟨hk.1, fun e => by have := Kd.N_base HN9.out k e.symm; have := hk.2; omega⟩) (fun k hk => HOK.out k (Nat.le_trans HB9.out.size hk)) HB9.out.size (by rw [List.length_append, List.length_take]; simp; omega) rfl (by decide) (by decide) rfl rfl rfl rfl ?_); intro v10 w10 hN10 hb10 hg10; rw [HLIST.out] at hN10; obtain ⟨A10, c10, rfl⟩ := Kd.N_slice hN10; have HN10 := Lib.hid hN10; have HB10 := Lib.hid (HB9.out.trans hb10); clear hN10 hb10 hg10; have hf10 := blk_frozen (blk_below HB10.out HR.out.blk) 1; have hk10 := blk_cell (blk_below HB10.out HR.out.blk) 1; simp only [List.getElem?_toArray, List.getElem?_cons_zero, List.getElem?_cons_succ] at hk10))
            go_ret
            have hN := HN10.out
            refine ⟨A10, c10, ?_⟩
            rw [HD.out]
            refine ⟨rfl, ?_, (But.of_below _ HB10.out).trans (But.set _ _ _ rfl)⟩
            refine ⟨HR.out.nok, ?_, HR.out.lv, ?_, ?_, ?_⟩
            · have := blk_set (blk_below HB10.out HR.out.blk) 1 (.slice A10 (insK SEdg.f0 ⟨id, s, x, y, l⟩ es).length c10)
              simpa using this
            · exact (Kd.N_reads' hN).2.1
            · exact Kd.F_far (Kd.F_mono (Kd.F_below (Kd.F_bound HR.out.vr) HB10.out) (fun k hk => hk.1)) (fun k hk e => HR.out.nok (by rw [← (show k = r from e)]; exact hk)) _
            · exact Kd.F_far (Kd.N_F hN) (fun k hk e => HR.out.nok (by rw [← (show k = r from e)]; exact hk)) _
        · have hlt2 : ¬ (k : Int) < (es.length : Int) := by omega
          have HINS := Lib.hid (insK_place (key := SEdg.f0) (x := ⟨id, s, x, y, l⟩) es k hk (fun y hy => Int.le_of_lt (HL.out y hy)) (fun z h => absurd h hlt))
          go_wp2_with fail
          go_big_quiet (fail)
          have HB7 := Lib.hid (pw_below_drewN HB7.out nq)
          have HK7 := Lib.hid (blk_below (pw_below_drewN (Below.refl _ wr) nq) HK7.out)
          have HP7 := Lib.hid (Kd.R_below HP7.out (pw_below_drewN (Below.refl _ wr) nq))
          generalize wr.drewN nq = wr7 at HB7 HK7 HP7 ⊢
          obtain ⟨iV, hiV, -, hzV, -⟩ := info_parts info_Edg
          obtain ⟨A11, hcut1, hF1⟩ := cut_to 72 35 Try.underlying72 hiV kEdg hzV B d k es hk HR.out.le
          obtain ⟨A12, hcut2, hF2⟩ := cut_from 72 35 Try.underlying72 hiV kEdg hzV B d k es hk HR.out.le
          have HF1 := Lib.hid hF1
          have HF2 := Lib.hid hF2
          clear hF1 hF2 hiV hzV hkr hkb
          have hkr := blk_cell (blk_below HB7.out HR.out.blk) 1
          simp only [List.getElem?_toArray, List.getElem?_cons_zero, List.getElem?_cons_succ] at hkr
          have HLIST := Lib.hid (show es.take k ++ [⟨id, s, x, y, l⟩] ++ es.drop k = insK SEdg.f0 ⟨id, s, x, y, l⟩ es by rw [HINS.out]; simp)
          go_wp2_with (first
            | (at_builtin; clear p1; (refine appN_rows (Kd.N_nil kEdg 35 wr7 w.heap.size ok) info_Edg Try.underlying72 (HF1.out wr7 _ (HVR.out wr7 HB7.out)) (fun k hk => ⟨hk.1, by simp [Value.ownBlock]⟩) (fun k hk => HOK.out k (Nat.le_trans HB7.out.size hk)) HB7.out.size (by simp; omega) rfl (by decide) (by decide) rfl rfl rfl rfl ?_); intro v8 w8 hN8 hb8 hg8; rw [List.nil_append] at hN8; have hbn := below_none hg8; have HN8 := Lib.hid hN8; have HB8 := Lib.hid (keepB0 hbn HB7.out); have HK8 := Lib.hid (blk_below hbn HK7.out); have HP8 := Lib.hid (Kd.R_below HP7.out hbn); clear hN8 hb8 hg8 hbn; have k80 := blk_cell HK8.out 0; have k81 := blk_cell HK8.out 1; have k82 := blk_cell HK8.out 2; have k83 := blk_cell HK8.out 3; have k84 := blk_cell HK8.out 4; simp only [List.getElem?_toArray, List.getElem?_cons_zero, List.getElem?_cons_succ] at k80 k81 k82 k83 k84)
            | (at_builtin; clear p2; (refine appN_one HN8.out info_Edg Try.underlying72 (p := ⟨id, s, x, y, l⟩) (FK_Edg (x := ⟨id, s, x, y, l⟩) hlc (Kd.F_mono (ok' := fun k => ok k ∧ some k ≠ v8.ownBlock) (Kd.R_F (Kd.R_bound (Kd.R_apart' HP8.out (Kd.N_typed HN8.out) (by decide)))) (fun k hk => ⟨HOK.out k hk.2.1, hk.1.2⟩))) (fun k hk => hk) (fun k hk => HOK.out k (Nat.le_trans HB8.out.size hk)) HB8.out.size (by rw [List.length_take]; omega) rfl (by decide) (by decide) rfl rfl rfl rfl ?_); intro v9 w9 hN9 hb9 hg9; have HN9 := Lib.hid hN9; have HB9 := Lib.hid (HB8.out.trans hb9); clear hN9 hb9 hg9; have hkr9 := blk_cell (blk_below HB9.out HR.out.blk) 1; simp only [List.getElem?_toArray, List.getElem?_cons_zero, List.getElem?_cons_succ] at hkr9)
            | (at_builtin; (refine appN_rows HN9.out info_Edg Try.underlying72 (HF2.out w9 _ (HVR.out w9 HB9.out)) (fun k hk => ⟨hk.1, fun e => by have := Kd.N_base HN9.out k e.symm; have := hk.2; omega⟩) (fun k hk => HOK.out k (Nat.le_trans HB9.out.size hk)) HB9.out.size (by rw [List.length_append, List.length_take]; simp; omega) rfl (by decide) (by decide) rfl rfl rfl rfl ?_); intro v10 w10 hN10 hb10 hg10; rw [HLIST.out] at hN10; obtain ⟨A10, c10, rfl⟩ := Kd.N_slice hN10; have HN10 := Lib.hid hN10; have HB10 := Lib.hid (HB9.out.trans hb10); clear hN10 hb10 hg10; have hf10 := blk_frozen (blk_below HB10.out HR.out.blk) 1; have hk10 := blk_cell (blk_below HB10.out HR.out.blk) 1; simp only [List.getElem?_toArray, List.getElem?_cons_zero, List.getElem?_cons_succ] at hk10))
          go_ret
          have hN := HN10.out
          refine ⟨A10, c10, ?_⟩
          rw [HD.out]
          refine ⟨rfl, ?_, (But.of_below _ HB10.out).trans (But.set _ _ _ rfl)⟩
          refine ⟨HR.out.nok, ?_, HR.out.lv, ?_, ?_, ?_⟩
          · have := blk_set (blk_below HB10.out HR.out.blk) 1 (.slice A10 (insK SEdg.f0 ⟨id, s, x, y, l⟩ es).length c10)
            simpa using this
          · exact (Kd.N_reads' hN).2.1
          · exact Kd.F_far (Kd.F_mono (Kd.F_below (Kd.F_bound HR.out.vr) HB10.out) (fun k hk => hk.1)) (fun k hk e => HR.out.nok (by rw [← (show k = r from e)]; exact hk)) _
          · exact Kd.F_far (Kd.N_F hN) (fun k hk e => HR.out.nok (by rw [← (show k = r from e)]; exact hk)) _
  · rw [if_neg hc] at HD
    go_enter Try.func124, Try.ntmps124
    go_wp2_with (go_at_call 36; refine (ref16_Check_calls s A2 _ c2 3 l [id, x, y] _ hs (Kd.C_below HX.out HB0.out) HF.out ?hI).mono ?_; (case hI => exact C_boxesg (by simp) [id, x, y] .i64 (by simp)); rintro e w1 ⟨rfl, hb1⟩; have HB1 := Lib.hid (keepB0 hb1 HB0.out); clear hb1)
    go_ret
    refine ⟨B, d, ?_⟩
    rw [HD.out]
    exact ⟨rfl, HR.out.below HB1.out, But.of_below _ HB1.out⟩
end Go.Proofs.Ytonbnlfijmapfaa
/- cobwebref17.Built. No condition but on sizes. -/
namespace Go.Proofs.Ytonbnlfijmapfaa
open Go.RowKit Go.Shelf Go.Proofs.YtonbnlfijmapfaaW.PrintWords
set_option linter.unusedVariables false
set_option linter.unusedSimpArgs false

/-- Things as they come in, not too great to be looked at. -/
def inV (vs : List SVert) : Prop := ∀ x ∈ vs, fits x.f2 ∧ x.f1.size ≤ 2000000
def inE (es : List SEdg) : Prop := ∀ x ∈ es, fits x.f4 ∧ x.f1.size ≤ 2000000
/-- The document's graph, made anew. -/
def RetRef (w : World) (vs : List SVert) (es : List SEdg) (e : Ending) (w' : World) : Prop := ∃ r A' c' B' d', e = .returned (.pointer (some ⟨r, 0, none⟩)) ∧ w.heap.size ≤ r ∧ RefAt w' (fun k => k ≠ r) r A' c' B' d' vs es ∧ Below w.heap.size w w'
set_option maxRecDepth 100000 in
set_option maxHeartbeats 8000000 in
theorem ref17_Built_calls (A B : Option Addr) (c d : Nat) (vs : List SVert) (es : List SEdg) (w : World) (hv : kVert.C w A vs.length vs) (he : kEdg.C w B es.length es) (hiv : inV vs) (hie : inE es) (hn : vs.length ≤ 1000) (hm : es.length ≤ 1000) :
    Calls Try.prog 94 #[.slice A vs.length c, .slice B es.length d] w (RetRef w (layV [] vs) (layE (layV [] vs) [] es)) := by
  have HV := Lib.hid hv; clear hv
  have HE := Lib.hid he; clear he
  have HIV := Lib.hid hiv; clear hiv
  have HIE := Lib.hid hie; clear hie
  have hR0 : RefAt (w.alloc (.cells #[.slice none 0 0, .slice none 0 0] 97)) (fun k => k ≠ w.heap.size) w.heap.size none 0 none 0 [] [] :=
    ⟨fun e => e rfl, blk_new w _ _, Nat.le_refl _, Nat.le_refl _, Kd.F_nil _ _ _, Kd.F_nil _ _ _⟩
  have HR0 := Lib.hid hR0; clear hR0
  have HB0 := Lib.hid (below_al w (.cells #[.slice none 0 0, .slice none 0 0] 97))
  have HS0 : Hid (w.heap.size < (w.alloc (.cells #[.slice none 0 0, .slice none 0 0] 97)).heap.size) := Lib.hid (by simp)
  go_enter Try.func94, Try.ntmps94
  go_wp2
  generalize w.alloc (.cells #[.slice none 0 0, .slice none 0 0] 97) = w1 at HR0 HB0 HS0 ⊢
  go_loopw [6] (fun v6 wr => ∃ (k : Nat) (A' : Option Addr) (c' : Nat), k ≤ vs.length ∧ v6 = .int .i64 k ∧ Hid (RefAt wr (fun k => k ≠ w.heap.size) w.heap.size A' c' none 0 (layV [] (vs.take k)) []) ∧ Hid (Below w.heap.size w wr) ∧ Hid (w1.heap.size ≤ wr.heap.size)) (fun v6 _ => vs.length - (intOf v6).toNat)
  case atStart => exact ⟨0, none, 0, by omega, rfl, HR0, HB0, Lib.hid (Nat.le_refl _)⟩
  case round =>
    obtain ⟨k, A', c', hk, rfl, HR, HB, HZ⟩ := hrel
    by_cases hlt : k < vs.length
    · have hlt2 : (k : Int) < (vs.length : Int) := by omega
      obtain ⟨ad, A2, c2, rfl, g0, g1, g2, hle, hA⟩ := at_Vert (Kd.C_below HV.out HB.out) (k : Int) (by omega) (by omega)
      simp only [Int.toNat_natCast, rd_Vert] at g0 g1 g2 hA
      have HT := Lib.hid (take_more vs k zVert hlt)
      have hin := HIV.out (vs.getD k zVert) (by simp [List.getD_eq_getElem?_getD, List.getElem?_eq_getElem hlt])
      obtain ⟨⟨x0, x1, x2⟩, hx⟩ : ∃ q, vs.getD k zVert = q := ⟨_, rfl⟩
      rw [hx] at g0 g1 g2 hA HT hin
      clear hx hle
      simp only at g0 g1 g2 hA
      have hll := layV_length (vs.take k) []
      rw [List.length_take] at hll
      simp only [List.length_nil] at hll
      go_wp2_with (go_at_call 123; refine (ref16_AddVertex_calls (fun k => k ≠ w.heap.size) w.heap.size c' 0 A' none _ [] x0 x1 A2 c2 x2 _ HR.out ?hok (Kd.C_below hA (Below.refl _ _)) hin.1 hin.2 (by omega)).mono ?_; (case hok => intro j hj e; have h1 := HS0.out; have h2 := HZ.out; omega); rintro e w5 ⟨A5, c5, rfl, hR5, hb5⟩; have HR5 := Lib.hid hR5; have HB5 := Lib.hid (hb5.keep HB.out (fun k hk => by rw [hk]; exact Nat.le_refl _) (Nat.le_refl _)); have HZ5 := Lib.hid (Nat.le_trans HZ.out hb5.size); clear hR5 hb5)
      go_roundw
      case rel => exact ⟨k + 1, A5, c5, by omega, by go_num, Lib.hid (by rw [HT.out, layV_snoc]; exact HR5.out), HB5, HZ5⟩
      case measure => simp [intOf]; omega
    · have hlt2 : ¬ (k : Int) < (vs.length : Int) := by omega
      have HR2 := Lib.hid (show RefAt wr (fun k => k ≠ w.heap.size) w.heap.size A' c' none 0 (layV [] vs) [] from by have := HR.out; rwa [List.take_of_length_le (by omega)] at this)
      have HB2 := HB
      have HZ2 := HZ
      clear HR HB HZ
      go_wp2
      go_loopw [7] (fun v7 wr => ∃ (k : Nat) (B' : Option Addr) (d' : Nat), k ≤ es.length ∧ v7 = .int .i64 k ∧ Hid (RefAt wr (fun k => k ≠ w.heap.size) w.heap.size A' c' B' d' (layV [] vs) (layE (layV [] vs) [] (es.take k))) ∧ Hid (Below w.heap.size w wr) ∧ Hid (w1.heap.size ≤ wr.heap.size)) (fun v7 _ => es.length - (intOf v7).toNat)
      case atStart => exact ⟨0, none, 0, by omega, rfl, HR2, HB2, HZ2⟩
      case round =>
        obtain ⟨j, B', d', hj, rfl, HR, HB, HZ⟩ := hrel
        by_cases hlj : j < es.length
        · have hlj2 : (j : Int) < (es.length : Int) := by omega
          obtain ⟨ad, A2, c2, rfl, g0, g1, g2, g3, g4, hle, hA⟩ := at_Edg (Kd.C_below HE.out HB.out) (j : Int) (by omega) (by omega)
          simp only [Int.toNat_natCast, rd_Edg] at g0 g1 g2 g3 g4 hA
          have HT := Lib.hid (take_more es j zEdg hlj)
          have hin := HIE.out (es.getD j zEdg) (by simp [List.getD_eq_getElem?_getD, List.getElem?_eq_getElem hlj])
          obtain ⟨⟨x0, x1, x2, x3, x4⟩, hx⟩ : ∃ q, es.getD j zEdg = q := ⟨_, rfl⟩
          rw [hx] at g0 g1 g2 g3 g4 hA HT hin
          clear hx hle
          simp only at g0 g1 g2 g3 g4 hA
          have hll := layE_length (layV [] vs) (es.take j) []
          rw [List.length_take] at hll
          simp only [List.length_nil] at hll
          go_wp2_with (go_at_call 124; refine (ref16_AddEdge_calls (fun k => k ≠ w.heap.size) w.heap.size c' d' A' B' _ _ x0 x1 x2 x3 A2 c2 x4 _ HR.out ?hok (Kd.C_below hA (Below.refl _ _)) hin.1 hin.2 (by omega)).mono ?_; (case hok => intro j hj e; have h1 := HS0.out; have h2 := HZ.out; omega); rintro e w5 ⟨B5, d5, rfl, hR5, hb5⟩; have HR5 := Lib.hid hR5; have HB5 := Lib.hid (hb5.keep HB.out (fun k hk => by rw [hk]; exact Nat.le_refl _) (Nat.le_refl _)); have HZ5 := Lib.hid (Nat.le_trans HZ.out hb5.size); clear hR5 hb5)
          go_roundw
          case rel => exact ⟨j + 1, B5, d5, by omega, by go_num, Lib.hid (by rw [HT.out, layE_snoc]; exact HR5.out), HB5, HZ5⟩
          case measure => simp [intOf]; omega
        · have hlj2 : ¬ (j : Int) < (es.length : Int) := by omega
          go_wp2
          go_ret
          refine ⟨w.heap.size, A', c', B', d', rfl, Nat.le_refl _, ?_, HB.out⟩
          have := HR.out
          rwa [List.take_of_length_le (by omega)] at this
end Go.Proofs.Ytonbnlfijmapfaa
