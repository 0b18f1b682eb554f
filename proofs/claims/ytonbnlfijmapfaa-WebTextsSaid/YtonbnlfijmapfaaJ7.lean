/- Texts of this proof, joined: L44, L45, O0, O1, O3. No condition. -/
import Derived.Test.YtonbnlfijmapfaaJ6
import Derived.Deep.DeepCutAuto
import Derived.Test.YtonbnlfijmapfaaJ1
import Derived.ProofKit
import Derived.Deep.Slices
import Derived.OpenShut
/- cobweblaw21.WebTexts, where all is small. -/
namespace Go.Proofs.Ytonbnlfijmapfaa
open Go.RowKit Go.Shelf Go.Proofs.YtonbnlfijmapfaaW.PrintWords
set_option linter.unusedVariables false
set_option linter.unusedSimpArgs false

set_option maxRecDepth 100000 in
set_option maxHeartbeats 8000000 in
theorem law21_WebTexts_good (i1 i2 x y : Int) (s1 s2 s : ByteArray) (A1 A2 : Option Addr) (c1 c2 : Nat) (l1 l2 : List SPrp) (w : World) (h1 : PropsIn w A1 c1 l1) (h2 : PropsIn w A2 c2 l2) (hn1 : lawProps l1 = true) (hn2 : lawProps l2 = true) (hs : s.size ≤ 2000) (hs1 : s1.size ≤ 200) (hs2 : s2.size ≤ 200) :
    Calls Try.prog 6 #[.agg #[.int .i64 i1, .string s1, .slice A1 l1.length c1], .agg #[.int .i64 i2, .string s2, .int .i64 x, .int .i64 y, .slice A2 l2.length c2], .string s] w fun e w' => e = .returned (.bool true) ∧ Below w.heap.size w w' := by
  have H1 := Lib.hid h1; clear h1
  have H2 := Lib.hid h2; clear h2
  have F1 := Lib.hid (small_fits hn1)
  have F2 := Lib.hid (small_fits hn2)
  have hfirst : True := trivial
  have hfirst2 : True := trivial
  have HN := Lib.hid (Bt.new w (.int .i64 i1) (.string s1) (.slice A1 l1.length c1) (.int .i64 i2) (.string s2) (.int .i64 x) (.int .i64 y) (.slice A2 l2.length c2))
  have hn3 : ¬ (2000 : Int) < (s.size : Int) := by omega
  have hn4 : ¬ (200 : Int) < (s1.size : Int) := by omega
  have hn5 : ¬ (200 : Int) < (s2.size : Int) := by omega
  obtain ⟨n1, hN1⟩ : ∃ n, checkN s1 l1 [i1] = n := ⟨_, rfl⟩
  have HN1 := Lib.hid hN1; clear hN1
  obtain ⟨n2, hN2⟩ : ∃ n, checkN s2 l2 [i2, x, y] = n := ⟨_, rfl⟩
  have HN2 := Lib.hid hN2; clear hN2
  obtain ⟨t1, hT1⟩ : ∃ t, vertexText i1 s1 l1 = t := ⟨_, rfl⟩
  have HT1 := Lib.hid hT1; clear hT1
  obtain ⟨t2, hT2⟩ : ∃ t, edgeText i2 s2 x y l2 = t := ⟨_, rfl⟩
  have HT2 := Lib.hid hT2; clear hT2
  go_enter Try.func6, Try.ntmps6
  go_upto_region 5 with (first
    | (go_at_call 15; clear hfirst; refine (law21_awake_calls _).mono ?_; rintro e wa ⟨rfl, hba⟩; have HB := Lib.hid (HN.out.keep hba); clear hba HN; obtain ⟨x0, x1, x2, y0, y1, y2, y3, y4⟩ := HB.out.cells)
    | (go_at_call 16; clear hfirst2; refine (law21_props_calls A1 c1 l1 _ (Kd.C_below H1.out.row HB.out.low)).mono ?_; rw [hn1]; rintro e wp ⟨rfl, rfl⟩)
    | (go_at_call 16; refine (law21_props_calls A2 c2 l2 _ (Kd.C_below H2.out.row HB.out.low)).mono ?_; rw [hn2]; rintro e wp ⟨rfl, rfl⟩)
    | (go_at_call 17; refine (web_VertexText_calls i1 s1 A1 c1 l1 _ (by omega) (Kd.C_below H1.out.row HB.out.low) F1.out H1.out.rng).mono ?_; rw [HN1.out, HT1.out]; rintro e wb ⟨rfl, hb⟩; clear x0 x1 x2 y0 y1 y2 y3 y4; replace HB := Lib.hid (HB.out.keep hb); obtain ⟨x0, x1, x2, y0, y1, y2, y3, y4⟩ := HB.out.cells; clear hb)
    | (go_at_call 36; refine (ref16_Check_calls s1 A1 _ c1 1 l1 [i1] _ (by omega) (Kd.C_below H1.out.row (keepB0 (below_al _ _) HB.out.low)) F1.out ?hI).mono ?_; (case hI => exact C_boxg (Kd.int .i64) (by decide) _ _ (by simp) i1 #[.int .i64 i1] _ rfl); rw [HN1.out]; rintro e wc ⟨rfl, hb⟩; clear x0 x1 x2 y0 y1 y2 y3 y4; replace HB := Lib.hid ((HB.out.keep (below_al _ _)).keep hb); obtain ⟨x0, x1, x2, y0, y1, y2, y3, y4⟩ := HB.out.cells; clear hb))
  go_cut [82] from 72 to 82 (fun s82 wx => s82 = .bool false ∧ wx = wc)
  case first =>
    by_cases h : n1 = 0
    · subst h
      go_wp2_with fail
      go_meet
      case rel => exact ⟨rfl, rfl⟩
    · have ht : t1 = ⟨#[]⟩ := by rw [← HT1.out, vertexText, if_neg (by rw [HN1.out]; exact h)]
      subst ht
      go_wp2_with fail
      go_meet
      case rel => exact ⟨rfl, rfl⟩
  case rest =>
  obtain ⟨rfl, rfl⟩ := hcut
  go_upto_region 9 with (first
    | (go_at_call 19; refine (web_EdgeText_calls i2 s2 x y A2 c2 l2 _ (by omega) (Kd.C_below H2.out.row HB.out.low) F2.out H2.out.rng).mono ?_; rw [HN2.out, HT2.out]; rintro e wd ⟨rfl, hb⟩; clear x0 x1 x2 y0 y1 y2 y3 y4; replace HB := Lib.hid (HB.out.keep hb); obtain ⟨x0, x1, x2, y0, y1, y2, y3, y4⟩ := HB.out.cells; clear hb)
    | (go_at_call 36; refine (ref16_Check_calls s2 A2 _ c2 3 l2 [i2, x, y] _ (by omega) (Kd.C_below H2.out.row (keepB0 (below_al _ _) HB.out.low)) F2.out ?hI).mono ?_; (case hI => exact C_boxesg (by simp) [i2, x, y] .i64 (by simp)); rw [HN2.out]; rintro e we ⟨rfl, hb⟩; clear x0 x1 x2 y0 y1 y2 y3 y4; replace HB := Lib.hid ((HB.out.keep (below_al _ _)).keep hb); obtain ⟨x0, x1, x2, y0, y1, y2, y3, y4⟩ := HB.out.cells; clear hb))
  go_cut [110] from 100 to 110 (fun s110 wx => s110 = .bool false ∧ wx = we)
  case first =>
    by_cases h : n2 = 0
    · subst h
      go_wp2_with fail
      go_meet
      case rel => exact ⟨rfl, rfl⟩
    · have ht : t2 = ⟨#[]⟩ := by rw [← HT2.out, edgeText, if_neg (by rw [HN2.out]; exact h)]
      subst ht
      go_wp2_with fail
      go_meet
      case rel => exact ⟨rfl, rfl⟩
  case rest =>
  obtain ⟨rfl, rfl⟩ := hcut
  go_upto_if 112 with fail
  go_cut [12, 13] from 111 to 138 (fun _ _ wx => Hid (Bt w (.int .i64 i1) (.string s1) (.slice A1 l1.length c1) (.int .i64 i2) (.string s2) (.int .i64 x) (.int .i64 y) (.slice A2 l2.length c2) wx))
  case first =>
    by_cases h : n1 = 0
    · subst h
      obtain rfl : bodyText s1 l1 = t1 := by rw [← HT1.out, vertexText, if_pos HN1.out]
      have q0 : (!(bodyText s1 l1).toList.isEmpty) = true := by rw [some_letters (body_pos (checkN_ok HN1.out).2.2)]; rfl
      go_wp2_with (first
        | (go_at_call 37; refine (ParseVertex_back i1 s1 l1 _ hs1 hn1 H1.out.rng HN1.out).mono ?_; rintro e wf ⟨A3, c3, rfl, hle3, hC3, hb⟩; have HC3 := Lib.hid (And.intro hle3 hC3); clear hle3 hC3; clear x0 x1 x2 y0 y1 y2 y3 y4; replace HB := Lib.hid (HB.out.keep hb); obtain ⟨x0, x1, x2, y0, y1, y2, y3, y4⟩ := HB.out.cells; clear hb; have e0 := fun o => pw_cell_below (below_al wf o) x0; have e1 := fun o => pw_cell_below (below_al wf o) x1; have e2 := fun o => pw_cell_below (below_al wf o) x2)
        | (go_at_call 38; refine (ref21_Body_calls s1 A1 c1 l1 _ (by omega) (Kd.C_below H1.out.row (keepB0 (below_al _ _) HB.out.low)) F1.out H1.out.rng (checkN_ok HN1.out).2.2).mono ?_; rintro e wg ⟨rfl, hb⟩; clear e0 e1 e2; have HZ := Lib.hid (blk_below hb (blk_new wf #[.int .i64 i1, .string s1, .slice A3 l1.length c3] 24)); replace HC3 := Lib.hid (And.intro HC3.out.1 (Kd.C_below HC3.out.2 (keepB0 hb (below_al _ _)))); clear x0 x1 x2 y0 y1 y2 y3 y4; replace HB := Lib.hid ((HB.out.keep (below_al _ _)).keep hb); obtain ⟨x0, x1, x2, y0, y1, y2, y3, y4⟩ := HB.out.cells; clear hb; have z0 : wg.cell? ⟨wf.heap.size, 0, none⟩ = some (.int .i64 i1) := blk_cell HZ.out 0; have z1 : wg.cell? ⟨wf.heap.size, 1, none⟩ = some (.string s1) := blk_cell HZ.out 1; have z2 : wg.cell? ⟨wf.heap.size, 2, none⟩ = some (.slice A3 l1.length c3) := blk_cell HZ.out 2; have e0 := fun o => pw_cell_below (below_al wg o) x0; have e1 := fun o => pw_cell_below (below_al wg o) x1; have e2 := fun o => pw_cell_below (below_al wg o) x2)
        | (go_at_call 18; refine (ref16_SameV_calls _ _ 1 1 [⟨i1, s1, l1⟩] [⟨i1, s1, l1⟩] _ (Kd.C_alloc (C_boxg kVert (by decide) _ _ (by simp) ⟨i1, s1, l1⟩ #[.int .i64 i1, .string s1, .slice A3 l1.length c3] _ (kVert_mk _ _ HC3.out.1 (Kd.C_alloc HC3.out.2 _))) _) (C_boxg kVert (by decide) _ _ (by simp) ⟨i1, s1, l1⟩ #[.int .i64 i1, .string s1, .slice A1 l1.length c1] _ (kVert_mk _ _ H1.out.cap (Kd.C_below H1.out.row (keepB0 (below_al _ _) (keepB0 (below_al _ _) HB.out.low)))))).mono ?_; rw [decide_eq_true rfl]; rintro e wh ⟨rfl, hq⟩; clear e0 e1 e2; clear x0 x1 x2 y0 y1 y2 y3 y4; replace HB := Lib.hid (((HB.out.keep (below_al _ _)).keep (below_al _ _)).keep (quiet_below hq _)); obtain ⟨x0, x1, x2, y0, y1, y2, y3, y4⟩ := HB.out.cells; clear hq))
      · go_meet
        case rel => exact HB
      · exact absurd (q0.symm.trans ‹(!(bodyText s1 l1).toList.isEmpty) = false›) (by decide)
    · have ht : t1 = ⟨#[]⟩ := by rw [← HT1.out, vertexText, if_neg (by rw [HN1.out]; exact h)]
      have q0 : (!t1.toList.isEmpty) = false := by rw [ht]; kernel_rfl
      clear ht
      go_wp2_with fail
      · exact absurd (q0.symm.trans ‹(!t1.toList.isEmpty) = true›) (by decide)
      · go_meet
        case rel => exact HB
  case rest =>
  clear x0 x1 x2 y0 y1 y2 y3 y4
  replace HB := Lib.hid hcut.out
  clear hcut
  obtain ⟨x0, x1, x2, y0, y1, y2, y3, y4⟩ := HB.out.cells
  go_upto_if 140 with fail
  go_cut [14, 15] from 139 to 174 (fun _ _ wx => Hid (Bt w (.int .i64 i1) (.string s1) (.slice A1 l1.length c1) (.int .i64 i2) (.string s2) (.int .i64 x) (.int .i64 y) (.slice A2 l2.length c2) wx))
  case first =>
    by_cases h : n2 = 0
    · subst h
      obtain rfl : strOfNums (fiveBytes x) ++ strOfNums (fiveBytes y) ++ bodyText s2 l2 = t2 := by rw [← HT2.out, edgeText, if_pos HN2.out]
      have q0 : (!(strOfNums (fiveBytes x) ++ strOfNums (fiveBytes y) ++ bodyText s2 l2).toList.isEmpty) = true := by rw [some_letters (edge_pos x y _)]; rfl
      have hz1 := five_size x
      have hz2 := five_size y
      have hz3 := body_short hs2 (checkN_ok HN2.out).2.2 hn2
      have HI := Lib.hid (checkN_one HN2.out)
      have hix : 0 ≤ x ∧ x < 1099511627776 := by simpa [idOk] using HI.out.2.2.1
      have hiy : 0 ≤ y ∧ y < 1099511627776 := by simpa [idOk] using HI.out.2.2.2
      have HIX := Lib.hid hix; have HIY := Lib.hid hiy; clear hix hiy
      go_wp2_with (first
        | (go_at_call 39; refine (ParseEdge_back i2 s2 x y l2 _ hs2 hn2 H2.out.rng HN2.out).mono ?_; rintro e wf ⟨A3, c3, rfl, hle3, hC3, hb⟩; have HC3 := Lib.hid (And.intro hle3 hC3); clear hle3 hC3; clear x0 x1 x2 y0 y1 y2 y3 y4; replace HB := Lib.hid (HB.out.keep hb); obtain ⟨x0, x1, x2, y0, y1, y2, y3, y4⟩ := HB.out.cells; clear hb))
      · have HZ := Lib.hid (blk_drew (blk_new wf #[.int .i64 i2, .string s2, .int .i64 x, .int .i64 y, .slice A3 l2.length c3] 35))
        replace HB := Lib.hid ((HB.out.keep (below_al wf (.cells #[.int .i64 i2, .string s2, .int .i64 x, .int .i64 y, .slice A3 l2.length c3] 35))).keep (below_drew (Below.refl _ _)))
        replace HC3 := Lib.hid (And.intro HC3.out.1 (Kd.C_drew (Kd.C_alloc HC3.out.2 (.cells #[.int .i64 i2, .string s2, .int .i64 x, .int .i64 y, .slice A3 l2.length c3] 35))))
        clear x0 x1 x2 y0 y1 y2 y3 y4
        refine wp_region_held_drew (S := (fun w' => Bt w (.int .i64 i1) (.string s1) (.slice A1 l1.length c1) (.int .i64 i2) (.string s2) (.int .i64 x) (.int .i64 y) (.slice A2 l2.length c2) w' ∧ Blk w' wf.heap.size #[.int .i64 i2, .string s2, .int .i64 x, .int .i64 y, .slice A3 l2.length c3] 35 ∧ kPrp.C w' A3 l2.length l2)) (by kernel_rfl) ?hS101 (fun hH0 => ?_)
        case hS101 => exact ⟨HB.out, HZ.out, HC3.out.2⟩
        refine takeY (oi := { dst := some 148, op := Op.move (Operand.tmp 10), type := 9, pos := "law.go:55", after := #[], guard := none }) 0 (some 148) (v := ?v0_102) rfl rfl (by kernel_rfl) (by kernel_rfl) (by kernel_rfl) (fun _ _ _ h => h) (by kernel_rfl) ?hy102 hH0 ?_
        case hy102 => (intro w_ hSw; (try dsimp only at hSw); (obtain ⟨x0, x1, x2, y0, y1, y2, y3, y4⟩ := hSw.1.cells; have z0 := blk_cell hSw.2.1 0; have z1 := blk_cell hSw.2.1 1; have z2 := blk_cell hSw.2.1 2; have z3 := blk_cell hSw.2.1 3; have z4 := blk_cell hSw.2.1 4; go_simp; (first | done | with_reducible rfl | rw [if_neg (by omega)])))
        simp only [Act.put, List.setIfInBounds_toArray, List.set_cons_zero, List.set_cons_succ]
        refine takeY (oi := { dst := some 149, op := Op.fieldAddr 35 (Operand.tmp 4) 2, type := 0, pos := "law.go:55", after := #[], guard := none }) 1 (some 149) (v := ?v1_103) rfl rfl (by kernel_rfl) (by kernel_rfl) (by kernel_rfl) (fun _ _ _ h => h) (by kernel_rfl) ?hy103 hH0 ?_
        case hy103 => (intro w_ hSw; (try dsimp only at hSw); (obtain ⟨x0, x1, x2, y0, y1, y2, y3, y4⟩ := hSw.1.cells; have z0 := blk_cell hSw.2.1 0; have z1 := blk_cell hSw.2.1 1; have z2 := blk_cell hSw.2.1 2; have z3 := blk_cell hSw.2.1 3; have z4 := blk_cell hSw.2.1 4; go_simp; (first | done | with_reducible rfl | rw [if_neg (by omega)])))
        simp only [Act.put, List.setIfInBounds_toArray, List.set_cons_zero, List.set_cons_succ]
        refine takeY (oi := { dst := some 150, op := Op.load 3 (Operand.tmp 149), type := 3, pos := "law.go:55", after := #[{ on := 1, ground := Ground.data }], guard := none }) 2 (some 150) (v := ?v2_104) rfl rfl (by kernel_rfl) (by kernel_rfl) (by kernel_rfl) (fun _ _ _ h => h) (by kernel_rfl) ?hy104 hH0 ?_
        case hy104 => (intro w_ hSw; (try dsimp only at hSw); (obtain ⟨x0, x1, x2, y0, y1, y2, y3, y4⟩ := hSw.1.cells; have z0 := blk_cell hSw.2.1 0; have z1 := blk_cell hSw.2.1 1; have z2 := blk_cell hSw.2.1 2; have z3 := blk_cell hSw.2.1 3; have z4 := blk_cell hSw.2.1 4; go_simp; (first | done | with_reducible rfl | rw [if_neg (by omega)])))
        simp only [Act.put, List.setIfInBounds_toArray, List.set_cons_zero, List.set_cons_succ]
        refine takeY (oi := { dst := some 152, op := Op.fieldAddr 35 (Operand.tmp 4) 3, type := 0, pos := "law.go:55", after := #[], guard := none }) 4 (some 152) (v := ?v4_105) rfl rfl (by kernel_rfl) (by kernel_rfl) (by kernel_rfl) (fun _ _ _ h => h) (by kernel_rfl) ?hy105 hH0 ?_
        case hy105 => (intro w_ hSw; (try dsimp only at hSw); (obtain ⟨x0, x1, x2, y0, y1, y2, y3, y4⟩ := hSw.1.cells; have z0 := blk_cell hSw.2.1 0; have z1 := blk_cell hSw.2.1 1; have z2 := blk_cell hSw.2.1 2; have z3 := blk_cell hSw.2.1 3; have z4 := blk_cell hSw.2.1 4; go_simp; (first | done | with_reducible rfl | rw [if_neg (by omega)])))
        simp only [Act.put, List.setIfInBounds_toArray, List.set_cons_zero, List.set_cons_succ]
        refine takeY (oi := { dst := some 153, op := Op.load 3 (Operand.tmp 152), type := 3, pos := "law.go:55", after := #[{ on := 4, ground := Ground.data }], guard := none }) 5 (some 153) (v := ?v5_106) rfl rfl (by kernel_rfl) (by kernel_rfl) (by kernel_rfl) (fun _ _ _ h => h) (by kernel_rfl) ?hy106 hH0 ?_
        case hy106 => (intro w_ hSw; (try dsimp only at hSw); (obtain ⟨x0, x1, x2, y0, y1, y2, y3, y4⟩ := hSw.1.cells; have z0 := blk_cell hSw.2.1 0; have z1 := blk_cell hSw.2.1 1; have z2 := blk_cell hSw.2.1 2; have z3 := blk_cell hSw.2.1 3; have z4 := blk_cell hSw.2.1 4; go_simp; (first | done | with_reducible rfl | rw [if_neg (by omega)])))
        simp only [Act.put, List.setIfInBounds_toArray, List.set_cons_zero, List.set_cons_succ]
        refine takeY (oi := { dst := some 156, op := Op.fieldAddr 35 (Operand.tmp 4) 1, type := 0, pos := "law.go:55", after := #[], guard := none }) 8 (some 156) (v := ?v8_107) rfl rfl (by kernel_rfl) (by kernel_rfl) (by kernel_rfl) (fun _ _ _ h => h) (by kernel_rfl) ?hy107 hH0 ?_
        case hy107 => (intro w_ hSw; (try dsimp only at hSw); (obtain ⟨x0, x1, x2, y0, y1, y2, y3, y4⟩ := hSw.1.cells; have z0 := blk_cell hSw.2.1 0; have z1 := blk_cell hSw.2.1 1; have z2 := blk_cell hSw.2.1 2; have z3 := blk_cell hSw.2.1 3; have z4 := blk_cell hSw.2.1 4; go_simp; (first | done | with_reducible rfl | rw [if_neg (by omega)])))
        simp only [Act.put, List.setIfInBounds_toArray, List.set_cons_zero, List.set_cons_succ]
        refine takeY (oi := { dst := some 157, op := Op.load 9 (Operand.tmp 156), type := 9, pos := "law.go:55", after := #[{ on := 8, ground := Ground.data }], guard := none }) 9 (some 157) (v := ?v9_108) rfl rfl (by kernel_rfl) (by kernel_rfl) (by kernel_rfl) (fun _ _ _ h => h) (by kernel_rfl) ?hy108 hH0 ?_
        case hy108 => (intro w_ hSw; (try dsimp only at hSw); (obtain ⟨x0, x1, x2, y0, y1, y2, y3, y4⟩ := hSw.1.cells; have z0 := blk_cell hSw.2.1 0; have z1 := blk_cell hSw.2.1 1; have z2 := blk_cell hSw.2.1 2; have z3 := blk_cell hSw.2.1 3; have z4 := blk_cell hSw.2.1 4; go_simp; (first | done | with_reducible rfl | rw [if_neg (by omega)])))
        simp only [Act.put, List.setIfInBounds_toArray, List.set_cons_zero, List.set_cons_succ]
        refine takeY (oi := { dst := some 158, op := Op.fieldAddr 35 (Operand.tmp 4) 4, type := 0, pos := "law.go:55", after := #[], guard := none }) 10 (some 158) (v := ?v10_109) rfl rfl (by kernel_rfl) (by kernel_rfl) (by kernel_rfl) (fun _ _ _ h => h) (by kernel_rfl) ?hy109 hH0 ?_
        case hy109 => (intro w_ hSw; (try dsimp only at hSw); (obtain ⟨x0, x1, x2, y0, y1, y2, y3, y4⟩ := hSw.1.cells; have z0 := blk_cell hSw.2.1 0; have z1 := blk_cell hSw.2.1 1; have z2 := blk_cell hSw.2.1 2; have z3 := blk_cell hSw.2.1 3; have z4 := blk_cell hSw.2.1 4; go_simp; (first | done | with_reducible rfl | rw [if_neg (by omega)])))
        simp only [Act.put, List.setIfInBounds_toArray, List.set_cons_zero, List.set_cons_succ]
        refine takeY (oi := { dst := some 159, op := Op.load 22 (Operand.tmp 158), type := 22, pos := "law.go:55", after := #[{ on := 10, ground := Ground.data }], guard := none }) 11 (some 159) (v := ?v11_110) rfl rfl (by kernel_rfl) (by kernel_rfl) (by kernel_rfl) (fun _ _ _ h => h) (by kernel_rfl) ?hy110 hH0 ?_
        case hy110 => (intro w_ hSw; (try dsimp only at hSw); (obtain ⟨x0, x1, x2, y0, y1, y2, y3, y4⟩ := hSw.1.cells; have z0 := blk_cell hSw.2.1 0; have z1 := blk_cell hSw.2.1 1; have z2 := blk_cell hSw.2.1 2; have z3 := blk_cell hSw.2.1 3; have z4 := blk_cell hSw.2.1 4; go_simp; (first | done | with_reducible rfl | rw [if_neg (by omega)])))
        simp only [Act.put, List.setIfInBounds_toArray, List.set_cons_zero, List.set_cons_succ]
        refine wpAnyH_ready (rs := [3]) (by kernel_rfl) (by simp) ?_
        refine AllReadyH.cons (o := { dst := some 151, op := Op.call { callee := Callee.value (Operand.func 25), args := #[Operand.tmp 150], argTypes := #[3] }, type := 9, pos := "law.go:55", after := #[{ on := 2, ground := Ground.data }], guard := none }) rfl (fun K1 hK1 => ?_) AllReadyH.nil
        go_simp; refine (ref21_Five_calls x _ HIX.out.1 HIX.out.2).mono ?_; rintro e w2 ⟨rfl, hb2⟩
        refine hK1.out _ _ ?hS111 (fun hH1 => ?_)
        case hS111 => ((try dsimp only); (exact ⟨hH0.1.keep hb2, blk_below hb2 hH0.2.1, Kd.C_below hH0.2.2 hb2⟩))
        clear hK1 K1
        (try clear hH0)
        (try simp only [Act.put, List.setIfInBounds_toArray, List.set_cons_zero, List.set_cons_succ])
        refine wpAnyH_ready (rs := [6]) (by kernel_rfl) (by simp) ?_
        refine AllReadyH.cons (o := { dst := some 154, op := Op.call { callee := Callee.value (Operand.func 25), args := #[Operand.tmp 153], argTypes := #[3] }, type := 9, pos := "law.go:55", after := #[{ on := 5, ground := Ground.data }, { on := 3, ground := Ground.chain }], guard := none }) rfl (fun K2 hK2 => ?_) AllReadyH.nil
        go_simp; refine (ref21_Five_calls y _ HIY.out.1 HIY.out.2).mono ?_; rintro e w3 ⟨rfl, hb3⟩
        refine hK2.out _ _ ?hS112 (fun hH2 => ?_)
        case hS112 => ((try dsimp only); (exact ⟨hH1.1.keep hb3, blk_below hb3 hH1.2.1, Kd.C_below hH1.2.2 hb3⟩))
        clear hK2 K2
        (try clear hH1)
        (try simp only [Act.put, List.setIfInBounds_toArray, List.set_cons_zero, List.set_cons_succ])
        refine takeY (oi := { dst := some 155, op := Op.binOp BinOp.add 9 (Operand.tmp 151) (Operand.tmp 154) 9, type := 9, pos := "law.go:55", after := #[{ on := 3, ground := Ground.data }, { on := 6, ground := Ground.data }], guard := none }) 7 (some 155) (v := ?v7_113) rfl rfl (by kernel_rfl) (by kernel_rfl) (by kernel_rfl) (fun _ _ _ h => h) (by kernel_rfl) ?hy113 hH2 ?_
        case hy113 => (intro w_ hSw; (try dsimp only at hSw); (obtain ⟨x0, x1, x2, y0, y1, y2, y3, y4⟩ := hSw.1.cells; have z0 := blk_cell hSw.2.1 0; have z1 := blk_cell hSw.2.1 1; have z2 := blk_cell hSw.2.1 2; have z3 := blk_cell hSw.2.1 3; have z4 := blk_cell hSw.2.1 4; go_simp; (first | done | with_reducible rfl | rw [if_neg (by omega)])))
        simp only [Act.put, List.setIfInBounds_toArray, List.set_cons_zero, List.set_cons_succ]
        refine wpAnyH_ready (rs := [12]) (by kernel_rfl) (by simp) ?_
        refine AllReadyH.cons (o := { dst := some 160, op := Op.call { callee := Callee.value (Operand.func 38), args := #[Operand.tmp 157, Operand.tmp 159], argTypes := #[9, 22] }, type := 9, pos := "law.go:55", after := #[{ on := 9, ground := Ground.data }, { on := 11, ground := Ground.data }, { on := 6, ground := Ground.chain }], guard := none }) rfl (fun K3 hK3 => ?_) AllReadyH.nil
        go_simp; refine (ref21_Body_calls s2 A2 c2 l2 _ (by omega) (Kd.C_below H2.out.row hH2.1.low) F2.out H2.out.rng (checkN_ok HN2.out).2.2).mono ?_; rintro e w4 ⟨rfl, hb4⟩; have hC4 := Kd.C_below hH2.2.2 hb4; have hL4 := keepB0 hb4 hH2.1.low
        refine hK3.out _ _ ?hS114 (fun hH3 => ?_)
        case hS114 => ((try dsimp only); (exact ⟨hH2.1.keep hb4, blk_below hb4 hH2.2.1, Kd.C_below hH2.2.2 hb4⟩))
        clear hK3 K3
        (try clear hH2)
        (try simp only [Act.put, List.setIfInBounds_toArray, List.set_cons_zero, List.set_cons_succ])
        refine takeY (oi := { dst := some 161, op := Op.binOp BinOp.add 9 (Operand.tmp 155) (Operand.tmp 160) 9, type := 9, pos := "law.go:55", after := #[{ on := 7, ground := Ground.data }, { on := 12, ground := Ground.data }], guard := none }) 13 (some 161) (v := ?v13_115) rfl rfl (by kernel_rfl) (by kernel_rfl) (by kernel_rfl) (fun _ _ _ h => h) (by kernel_rfl) ?hy115 hH3 ?_
        case hy115 => (intro w_ hSw; (try dsimp only at hSw); (obtain ⟨x0, x1, x2, y0, y1, y2, y3, y4⟩ := hSw.1.cells; have z0 := blk_cell hSw.2.1 0; have z1 := blk_cell hSw.2.1 1; have z2 := blk_cell hSw.2.1 2; have z3 := blk_cell hSw.2.1 3; have z4 := blk_cell hSw.2.1 4; go_simp; (first | done | with_reducible rfl | rw [if_neg (by omega)])))
        simp only [Act.put, List.setIfInBounds_toArray, List.set_cons_zero, List.set_cons_succ]
        refine takeY (oi := { dst := some 162, op := Op.binOp BinOp.neq 9 (Operand.tmp 148) (Operand.tmp 161) 9, type := 4, pos := "law.go:55", after := #[{ on := 0, ground := Ground.data }, { on := 13, ground := Ground.data }], guard := none }) 14 (some 162) (v := ?v14_116) rfl rfl (by kernel_rfl) (by kernel_rfl) (by kernel_rfl) (fun _ _ _ h => h) (by kernel_rfl) ?hy116 hH3 ?_
        case hy116 => (intro w_ hSw; (try dsimp only at hSw); (obtain ⟨x0, x1, x2, y0, y1, y2, y3, y4⟩ := hSw.1.cells; have z0 := blk_cell hSw.2.1 0; have z1 := blk_cell hSw.2.1 1; have z2 := blk_cell hSw.2.1 2; have z3 := blk_cell hSw.2.1 3; have z4 := blk_cell hSw.2.1 4; go_simp; (first | done | with_reducible rfl | rw [if_neg (by omega)])))
        simp only [Act.put, List.setIfInBounds_toArray, List.set_cons_zero, List.set_cons_succ]
        refine takeY (oi := { dst := some 163, op := Op.move (Operand.tmp 162), type := 4, pos := "law.go:55", after := #[{ on := 14, ground := Ground.data }, { on := 12, ground := Ground.chain }], guard := none }) 15 (some 163) (v := ?v15_117) rfl rfl (by kernel_rfl) (by kernel_rfl) (by kernel_rfl) (fun _ _ _ h => h) (by kernel_rfl) ?hy117 hH3 ?_
        case hy117 => (intro w_ hSw; (try dsimp only at hSw); (obtain ⟨x0, x1, x2, y0, y1, y2, y3, y4⟩ := hSw.1.cells; have z0 := blk_cell hSw.2.1 0; have z1 := blk_cell hSw.2.1 1; have z2 := blk_cell hSw.2.1 2; have z3 := blk_cell hSw.2.1 3; have z4 := blk_cell hSw.2.1 4; go_simp; (first | done | with_reducible rfl | rw [if_neg (by omega)])))
        simp only [Act.put, List.setIfInBounds_toArray, List.set_cons_zero, List.set_cons_succ]
        refine takeY (oi := { dst := some 164, op := Op.move (Operand.tmp 15), type := 28, pos := "law.go:55", after := #[{ on := 15, ground := Ground.guard }], guard := some (15, false) }) 16 (some 164) (v := ?v16_118) rfl rfl (by kernel_rfl) (by kernel_rfl) (by kernel_rfl) (fun _ _ _ h => h) (by kernel_rfl) ?hy118 hH3 ?_
        case hy118 => (intro w_ hSw; (try dsimp only at hSw); (obtain ⟨x0, x1, x2, y0, y1, y2, y3, y4⟩ := hSw.1.cells; have z0 := blk_cell hSw.2.1 0; have z1 := blk_cell hSw.2.1 1; have z2 := blk_cell hSw.2.1 2; have z3 := blk_cell hSw.2.1 3; have z4 := blk_cell hSw.2.1 4; go_simp; (first | done | with_reducible rfl | rw [if_neg (by omega)])))
        simp only [Act.put, List.setIfInBounds_toArray, List.set_cons_zero, List.set_cons_succ]
        refine takeY (oi := { dst := some 165, op := Op.binOp BinOp.neq 28 (Operand.tmp 164) (Operand.const (Value.int IntKind.i64 0)) 28, type := 4, pos := "law.go:55", after := #[{ on := 16, ground := Ground.data }, { on := 15, ground := Ground.guard }], guard := some (15, false) }) 17 (some 165) (v := ?v17_119) rfl rfl (by kernel_rfl) (by kernel_rfl) (by kernel_rfl) (fun _ _ _ h => h) (by kernel_rfl) ?hy119 hH3 ?_
        case hy119 => (intro w_ hSw; (try dsimp only at hSw); (obtain ⟨x0, x1, x2, y0, y1, y2, y3, y4⟩ := hSw.1.cells; have z0 := blk_cell hSw.2.1 0; have z1 := blk_cell hSw.2.1 1; have z2 := blk_cell hSw.2.1 2; have z3 := blk_cell hSw.2.1 3; have z4 := blk_cell hSw.2.1 4; go_simp; (first | done | with_reducible rfl | rw [if_neg (by omega)])))
        simp only [Act.put, List.setIfInBounds_toArray, List.set_cons_zero, List.set_cons_succ]
        refine takeY (oi := { dst := some 166, op := Op.pick (Operand.tmp 163) (Operand.const (Value.bool true)) (Operand.tmp 165), type := 4, pos := "law.go:55", after := #[{ on := 15, ground := Ground.data }, { on := 17, ground := Ground.data }], guard := none }) 18 (some 166) (v := ?v18_120) rfl rfl (by kernel_rfl) (by kernel_rfl) (by kernel_rfl) (fun _ _ _ h => h) (by kernel_rfl) ?hy120 hH3 ?_
        case hy120 => (intro w_ hSw; (try dsimp only at hSw); (obtain ⟨x0, x1, x2, y0, y1, y2, y3, y4⟩ := hSw.1.cells; have z0 := blk_cell hSw.2.1 0; have z1 := blk_cell hSw.2.1 1; have z2 := blk_cell hSw.2.1 2; have z3 := blk_cell hSw.2.1 3; have z4 := blk_cell hSw.2.1 4; go_simp; (first | done | with_reducible rfl | rw [if_neg (by omega)])))
        simp only [Act.put, List.setIfInBounds_toArray, List.set_cons_zero, List.set_cons_succ]
        refine takeY (oi := { dst := some 167, op := Op.move (Operand.tmp 166), type := 4, pos := "law.go:55", after := #[{ on := 18, ground := Ground.data }, { on := 15, ground := Ground.chain }], guard := none }) 19 (some 167) (v := ?v19_121) rfl rfl (by kernel_rfl) (by kernel_rfl) (by kernel_rfl) (fun _ _ _ h => h) (by kernel_rfl) ?hy121 hH3 ?_
        case hy121 => (intro w_ hSw; (try dsimp only at hSw); (obtain ⟨x0, x1, x2, y0, y1, y2, y3, y4⟩ := hSw.1.cells; have z0 := blk_cell hSw.2.1 0; have z1 := blk_cell hSw.2.1 1; have z2 := blk_cell hSw.2.1 2; have z3 := blk_cell hSw.2.1 3; have z4 := blk_cell hSw.2.1 4; go_simp; (first | done | with_reducible rfl | rw [if_neg (by omega)])))
        simp only [Act.put, List.setIfInBounds_toArray, List.set_cons_zero, List.set_cons_succ]
        refine takeY (oi := { dst := some 168, op := Op.load 35 (Operand.tmp 14), type := 35, pos := "law.go:55", after := #[{ on := 19, ground := Ground.guard }], guard := some (19, false) }) 20 (some 168) (v := ?v20_122) rfl rfl (by kernel_rfl) (by kernel_rfl) (by kernel_rfl) (fun _ _ _ h => h) (by kernel_rfl) ?hy122 hH3 ?_
        case hy122 => (intro w_ hSw; (try dsimp only at hSw); (obtain ⟨x0, x1, x2, y0, y1, y2, y3, y4⟩ := hSw.1.cells; have z0 := blk_cell hSw.2.1 0; have z1 := blk_cell hSw.2.1 1; have z2 := blk_cell hSw.2.1 2; have z3 := blk_cell hSw.2.1 3; have z4 := blk_cell hSw.2.1 4; go_simp; (first | done | with_reducible rfl | rw [if_neg (by omega)])))
        simp only [Act.put, List.setIfInBounds_toArray, List.set_cons_zero, List.set_cons_succ]
        refine takeY (oi := { dst := some 170, op := Op.load 35 (Operand.tmp 4), type := 35, pos := "law.go:55", after := #[{ on := 19, ground := Ground.guard }], guard := some (19, false) }) 22 (some 170) (v := ?v22_123) rfl rfl (by kernel_rfl) (by kernel_rfl) (by kernel_rfl) (fun _ _ _ h => h) (by kernel_rfl) ?hy123 hH3 ?_
        case hy123 => (intro w_ hSw; (try dsimp only at hSw); (obtain ⟨x0, x1, x2, y0, y1, y2, y3, y4⟩ := hSw.1.cells; have z0 := blk_cell hSw.2.1 0; have z1 := blk_cell hSw.2.1 1; have z2 := blk_cell hSw.2.1 2; have z3 := blk_cell hSw.2.1 3; have z4 := blk_cell hSw.2.1 4; go_simp; (first | done | with_reducible rfl | rw [if_neg (by omega)])))
        simp only [Act.put, List.setIfInBounds_toArray, List.set_cons_zero, List.set_cons_succ]
        refine wpAnyH_ready (rs := [21, 23]) (by kernel_rfl) (by simp) ?_
        refine AllReadyH.cons (o := { dst := some 169, op := Op.buildSlice 72 1 #[(0, Operand.tmp 168)], type := 72, pos := "law.go:55", after := #[{ on := 20, ground := Ground.data }, { on := 19, ground := Ground.guard }], guard := some (19, false) }) rfl (fun K4 hK4 => ?_) (AllReadyH.cons (o := { dst := some 171, op := Op.buildSlice 72 1 #[(0, Operand.tmp 170)], type := 72, pos := "law.go:55", after := #[{ on := 22, ground := Ground.data }, { on := 19, ground := Ground.guard }], guard := some (19, false) }) rfl (fun K4 hK4 => ?_) AllReadyH.nil)
        · skip
          go_simp
          refine hK4.out _ _ ?hS124 (fun hH4 => ?_)
          case hS124 => ((try dsimp only); (exact ⟨hH3.1.keep (below_al _ _), blk_alloc hH3.2.1 _, Kd.C_alloc hH3.2.2 _⟩))
          clear hK4 K4
          (try clear hH3)
          (try simp only [Act.put, List.setIfInBounds_toArray, List.set_cons_zero, List.set_cons_succ])
          refine wpAnyH_ready (rs := [23]) (by kernel_rfl) (by simp) ?_
          refine AllReadyH.cons (o := { dst := some 171, op := Op.buildSlice 72 1 #[(0, Operand.tmp 170)], type := 72, pos := "law.go:55", after := #[{ on := 22, ground := Ground.data }, { on := 19, ground := Ground.guard }], guard := some (19, false) }) rfl (fun K5 hK5 => ?_) AllReadyH.nil
          go_simp
          refine hK5.out _ _ ?hS125 (fun hH5 => ?_)
          case hS125 => ((try dsimp only); (exact ⟨hH4.1.keep (below_al _ _), blk_alloc hH4.2.1 _, Kd.C_alloc hH4.2.2 _⟩))
          clear hK5 K5
          (try clear hH4)
          (try simp only [Act.put, List.setIfInBounds_toArray, List.set_cons_zero, List.set_cons_succ])
          refine wpAnyH_ready (rs := [24]) (by kernel_rfl) (by simp) ?_
          refine AllReadyH.cons (o := { dst := some 172, op := Op.call { callee := Callee.value (Operand.func 40), args := #[Operand.tmp 169, Operand.tmp 171], argTypes := #[72, 72] }, type := 4, pos := "law.go:55", after := #[{ on := 21, ground := Ground.data }, { on := 23, ground := Ground.data }, { on := 19, ground := Ground.chain }, { on := 19, ground := Ground.guard }], guard := some (19, false) }) rfl (fun K6 hK6 => ?_) AllReadyH.nil
          go_simp; refine (ref16_SameE_calls _ _ 1 1 [⟨i2, s2, x, y, l2⟩] [⟨i2, s2, x, y, l2⟩] _ (Kd.C_alloc (C_boxg kEdg (by decide) _ _ (by simp) ⟨i2, s2, x, y, l2⟩ #[.int .i64 i2, .string s2, .int .i64 x, .int .i64 y, .slice A3 l2.length c3] _ (kEdg_mk _ _ HC3.out.1 (Kd.C_alloc hC4 _))) _) (C_boxg kEdg (by decide) _ _ (by simp) ⟨i2, s2, x, y, l2⟩ #[.int .i64 i2, .string s2, .int .i64 x, .int .i64 y, .slice A2 l2.length c2] _ (kEdg_mk _ _ H2.out.cap (Kd.C_below H2.out.row (keepB0 (below_al _ _) (keepB0 (below_al _ _) hL4)))))).mono ?_; rw [decide_eq_true rfl]; rintro e w6 ⟨rfl, hq⟩
          refine hK6.out _ _ ?hS126 (fun hH6 => ?_)
          case hS126 => ((try dsimp only); (exact ⟨hH5.1.keep (quiet_below hq _), blk_below (quiet_below hq _) hH5.2.1, Kd.C_below hH5.2.2 (quiet_below hq _)⟩))
          clear hK6 K6
          (try clear hH5)
          (try simp only [Act.put, List.setIfInBounds_toArray, List.set_cons_zero, List.set_cons_succ])
          refine takeY (oi := { dst := some 173, op := Op.unOp UnOp.not 4 (Operand.tmp 172), type := 4, pos := "law.go:55", after := #[{ on := 24, ground := Ground.data }, { on := 19, ground := Ground.guard }], guard := some (19, false) }) 25 (some 173) (v := ?v25_127) rfl rfl (by kernel_rfl) (by kernel_rfl) (by kernel_rfl) (fun _ _ _ h => h) (by kernel_rfl) ?hy127 hH6 ?_
          case hy127 => (intro w_ hSw; (try dsimp only at hSw); (obtain ⟨x0, x1, x2, y0, y1, y2, y3, y4⟩ := hSw.1.cells; have z0 := blk_cell hSw.2.1 0; have z1 := blk_cell hSw.2.1 1; have z2 := blk_cell hSw.2.1 2; have z3 := blk_cell hSw.2.1 3; have z4 := blk_cell hSw.2.1 4; go_simp; (first | done | with_reducible rfl | rw [if_neg (by omega)])))
          simp only [Act.put, List.setIfInBounds_toArray, List.set_cons_zero, List.set_cons_succ]
          refine takeY (oi := { dst := some 174, op := Op.pick (Operand.tmp 167) (Operand.const (Value.bool true)) (Operand.tmp 173), type := 4, pos := "law.go:55", after := #[{ on := 19, ground := Ground.data }, { on := 25, ground := Ground.data }], guard := none }) 26 (some 174) (v := ?v26_128) rfl rfl (by kernel_rfl) (by kernel_rfl) (by kernel_rfl) (fun _ _ _ h => h) (by kernel_rfl) ?hy128 hH6 ?_
          case hy128 => (intro w_ hSw; (try dsimp only at hSw); (obtain ⟨x0, x1, x2, y0, y1, y2, y3, y4⟩ := hSw.1.cells; have z0 := blk_cell hSw.2.1 0; have z1 := blk_cell hSw.2.1 1; have z2 := blk_cell hSw.2.1 2; have z3 := blk_cell hSw.2.1 3; have z4 := blk_cell hSw.2.1 4; go_simp; (first | done | with_reducible rfl | rw [if_neg (by omega)])))
          simp only [Act.put, List.setIfInBounds_toArray, List.set_cons_zero, List.set_cons_succ]
          refine wpAnyH_done (by kernel_rfl) ?_ _
          have hEnd := hH6
          clear hH6
          go_wp2_with fail
          go_meet
          (case rel => exact Lib.hid hEnd.1)
        · skip
          go_simp
          refine hK4.out _ _ ?hS129 (fun hH4 => ?_)
          case hS129 => ((try dsimp only); (exact ⟨hH3.1.keep (below_al _ _), blk_alloc hH3.2.1 _, Kd.C_alloc hH3.2.2 _⟩))
          clear hK4 K4
          (try clear hH3)
          (try simp only [Act.put, List.setIfInBounds_toArray, List.set_cons_zero, List.set_cons_succ])
          refine wpAnyH_ready (rs := [21]) (by kernel_rfl) (by simp) ?_
          refine AllReadyH.cons (o := { dst := some 169, op := Op.buildSlice 72 1 #[(0, Operand.tmp 168)], type := 72, pos := "law.go:55", after := #[{ on := 20, ground := Ground.data }, { on := 19, ground := Ground.guard }], guard := some (19, false) }) rfl (fun K5 hK5 => ?_) AllReadyH.nil
          go_simp
          refine hK5.out _ _ ?hS130 (fun hH5 => ?_)
          case hS130 => ((try dsimp only); (exact ⟨hH4.1.keep (below_al _ _), blk_alloc hH4.2.1 _, Kd.C_alloc hH4.2.2 _⟩))
          clear hK5 K5
          (try clear hH4)
          (try simp only [Act.put, List.setIfInBounds_toArray, List.set_cons_zero, List.set_cons_succ])
          refine wpAnyH_ready (rs := [24]) (by kernel_rfl) (by simp) ?_
          refine AllReadyH.cons (o := { dst := some 172, op := Op.call { callee := Callee.value (Operand.func 40), args := #[Operand.tmp 169, Operand.tmp 171], argTypes := #[72, 72] }, type := 4, pos := "law.go:55", after := #[{ on := 21, ground := Ground.data }, { on := 23, ground := Ground.data }, { on := 19, ground := Ground.chain }, { on := 19, ground := Ground.guard }], guard := some (19, false) }) rfl (fun K6 hK6 => ?_) AllReadyH.nil
          go_simp; refine (ref16_SameE_calls _ _ 1 1 [⟨i2, s2, x, y, l2⟩] [⟨i2, s2, x, y, l2⟩] _ (C_boxg kEdg (by decide) _ _ (by simp) ⟨i2, s2, x, y, l2⟩ #[.int .i64 i2, .string s2, .int .i64 x, .int .i64 y, .slice A3 l2.length c3] _ (kEdg_mk _ _ HC3.out.1 (Kd.C_alloc (Kd.C_alloc hC4 _) _))) (Kd.C_alloc (C_boxg kEdg (by decide) _ _ (by simp) ⟨i2, s2, x, y, l2⟩ #[.int .i64 i2, .string s2, .int .i64 x, .int .i64 y, .slice A2 l2.length c2] _ (kEdg_mk _ _ H2.out.cap (Kd.C_below H2.out.row (keepB0 (below_al _ _) hL4)))) _)).mono ?_; rw [decide_eq_true rfl]; rintro e w6 ⟨rfl, hq⟩
          refine hK6.out _ _ ?hS131 (fun hH6 => ?_)
          case hS131 => ((try dsimp only); (exact ⟨hH5.1.keep (quiet_below hq _), blk_below (quiet_below hq _) hH5.2.1, Kd.C_below hH5.2.2 (quiet_below hq _)⟩))
          clear hK6 K6
          (try clear hH5)
          (try simp only [Act.put, List.setIfInBounds_toArray, List.set_cons_zero, List.set_cons_succ])
          refine takeY (oi := { dst := some 173, op := Op.unOp UnOp.not 4 (Operand.tmp 172), type := 4, pos := "law.go:55", after := #[{ on := 24, ground := Ground.data }, { on := 19, ground := Ground.guard }], guard := some (19, false) }) 25 (some 173) (v := ?v25_132) rfl rfl (by kernel_rfl) (by kernel_rfl) (by kernel_rfl) (fun _ _ _ h => h) (by kernel_rfl) ?hy132 hH6 ?_
          case hy132 => (intro w_ hSw; (try dsimp only at hSw); (obtain ⟨x0, x1, x2, y0, y1, y2, y3, y4⟩ := hSw.1.cells; have z0 := blk_cell hSw.2.1 0; have z1 := blk_cell hSw.2.1 1; have z2 := blk_cell hSw.2.1 2; have z3 := blk_cell hSw.2.1 3; have z4 := blk_cell hSw.2.1 4; go_simp; (first | done | with_reducible rfl | rw [if_neg (by omega)])))
          simp only [Act.put, List.setIfInBounds_toArray, List.set_cons_zero, List.set_cons_succ]
          refine takeY (oi := { dst := some 174, op := Op.pick (Operand.tmp 167) (Operand.const (Value.bool true)) (Operand.tmp 173), type := 4, pos := "law.go:55", after := #[{ on := 19, ground := Ground.data }, { on := 25, ground := Ground.data }], guard := none }) 26 (some 174) (v := ?v26_133) rfl rfl (by kernel_rfl) (by kernel_rfl) (by kernel_rfl) (fun _ _ _ h => h) (by kernel_rfl) ?hy133 hH6 ?_
          case hy133 => (intro w_ hSw; (try dsimp only at hSw); (obtain ⟨x0, x1, x2, y0, y1, y2, y3, y4⟩ := hSw.1.cells; have z0 := blk_cell hSw.2.1 0; have z1 := blk_cell hSw.2.1 1; have z2 := blk_cell hSw.2.1 2; have z3 := blk_cell hSw.2.1 3; have z4 := blk_cell hSw.2.1 4; go_simp; (first | done | with_reducible rfl | rw [if_neg (by omega)])))
          simp only [Act.put, List.setIfInBounds_toArray, List.set_cons_zero, List.set_cons_succ]
          refine wpAnyH_done (by kernel_rfl) ?_ _
          have hEnd := hH6
          clear hH6
          go_wp2_with fail
          go_meet
          (case rel => exact Lib.hid hEnd.1)
      · exact absurd (q0.symm.trans ‹(!(strOfNums (fiveBytes x) ++ strOfNums (fiveBytes y) ++ bodyText s2 l2).toList.isEmpty) = false›) (by decide)
    · have ht : t2 = ⟨#[]⟩ := by rw [← HT2.out, edgeText, if_neg (by rw [HN2.out]; exact h)]
      have q0 : (!t2.toList.isEmpty) = false := by rw [ht]; kernel_rfl
      clear ht
      go_wp2_with fail
      · exact absurd (q0.symm.trans ‹(!t2.toList.isEmpty) = true›) (by decide)
      · go_meet
        case rel => exact HB
  case rest =>
  clear x0 x1 x2 y0 y1 y2 y3 y4
  replace HB := Lib.hid hcut.out
  clear hcut
  go_wp2_with fail
  refine wp_region_held_drew (S := (fun w' => Bt w (.int .i64 i1) (.string s1) (.slice A1 l1.length c1) (.int .i64 i2) (.string s2) (.int .i64 x) (.int .i64 y) (.slice A2 l2.length c2) w')) (by kernel_rfl) ?hS201 (fun hH0 => ?_)
  case hS201 => exact HB.out.keep (below_drew (Below.refl _ _))
  refine takeY (oi := { dst := some 175, op := Op.load 24 (Operand.tmp 3), type := 24, pos := "law.go:59", after := #[], guard := none }) 0 (some 175) (v := ?v0_202) rfl rfl (by kernel_rfl) (by kernel_rfl) (by kernel_rfl) (fun _ _ _ h => h) (by kernel_rfl) ?hy202 hH0 ?_
  case hy202 => (intro w_ hSw; (try dsimp only at hSw); (obtain ⟨x0, x1, x2, y0, y1, y2, y3, y4⟩ := hSw.cells; go_simp; (first | done | with_reducible rfl)))
  simp only [Act.put, List.setIfInBounds_toArray, List.set_cons_zero, List.set_cons_succ]
  refine takeY (oi := { dst := some 177, op := Op.load 24 (Operand.tmp 3), type := 24, pos := "law.go:59", after := #[], guard := none }) 2 (some 177) (v := ?v2_203) rfl rfl (by kernel_rfl) (by kernel_rfl) (by kernel_rfl) (fun _ _ _ h => h) (by kernel_rfl) ?hy203 hH0 ?_
  case hy203 => (intro w_ hSw; (try dsimp only at hSw); (obtain ⟨x0, x1, x2, y0, y1, y2, y3, y4⟩ := hSw.cells; go_simp; (first | done | with_reducible rfl)))
  simp only [Act.put, List.setIfInBounds_toArray, List.set_cons_zero, List.set_cons_succ]
  refine wpAnyH_ready (rs := [1]) (by kernel_rfl) (by simp) ?_
  refine AllReadyH.cons (o := { dst := some 176, op := Op.call { callee := Callee.value (Operand.func 20), args := #[Operand.tmp 175], argTypes := #[24] }, type := 36, pos := "law.go:59", after := #[{ on := 0, ground := Ground.data }], guard := none }) rfl (fun K1 hK1 => ?_) AllReadyH.nil
  go_simp; refine (web_Entries_calls i1 s1 A1 c1 l1 _ (by omega) (Kd.C_below H1.out.row hH0.low) F1.out H1.out.rng).mono ?_; rintro e wg ⟨v1, rfl, hR1, hbg⟩
  refine hK1.out _ _ ?hS204 (fun hH1 => ?_)
  case hS204 => ((try dsimp only); (exact hH0.keep hbg))
  clear hK1 K1
  (try clear hH0)
  (try simp only [Act.put, List.setIfInBounds_toArray, List.set_cons_zero, List.set_cons_succ])
  refine wpAnyH_ready (rs := [3]) (by kernel_rfl) (by simp) ?_
  refine AllReadyH.cons (o := { dst := some 178, op := Op.call { callee := Callee.value (Operand.func 41), args := #[Operand.tmp 177], argTypes := #[24] }, type := 36, pos := "law.go:59", after := #[{ on := 2, ground := Ground.data }, { on := 1, ground := Ground.chain }], guard := none }) rfl (fun K2 hK2 => ?_) AllReadyH.nil
  go_simp; refine (ref21_Entries_calls i1 s1 A1 c1 l1 _ (by omega) (Kd.C_below H1.out.row hH1.low) F1.out H1.out.rng).mono ?_; rintro e wh ⟨v2, rfl, hR2, hbh⟩
  refine hK2.out _ _ ?hS205 (fun hH2 => ?_)
  case hS205 => ((try dsimp only); (exact hH1.keep hbh))
  clear hK2 K2
  (try clear hH1)
  (try simp only [Act.put, List.setIfInBounds_toArray, List.set_cons_zero, List.set_cons_succ])
  refine takeY (oi := { dst := some 16, op := Op.assign (Operand.tmp 176), type := 36, pos := "law.go:59", after := #[{ on := 1, ground := Ground.data }, { on := 3, ground := Ground.chain }, { on := 0, ground := Ground.phase }, { on := 1, ground := Ground.phase }, { on := 2, ground := Ground.textOnly Departure.lateStores }, { on := 3, ground := Ground.textOnly Departure.lateStoresUnsure }], guard := none }) 4 (some 16) (v := ?v4_206) rfl rfl (by kernel_rfl) (by kernel_rfl) (by kernel_rfl) (fun _ _ _ h => h) (by kernel_rfl) ?hy206 hH2 ?_
  case hy206 => (intro w_ hSw; (try dsimp only at hSw); (obtain ⟨x0, x1, x2, y0, y1, y2, y3, y4⟩ := hSw.cells; go_simp; (first | done | with_reducible rfl)))
  simp only [Act.put, List.setIfInBounds_toArray, List.set_cons_zero, List.set_cons_succ]
  refine takeY (oi := { dst := some 17, op := Op.assign (Operand.tmp 178), type := 36, pos := "law.go:59", after := #[{ on := 3, ground := Ground.data }, { on := 4, ground := Ground.chain }, { on := 0, ground := Ground.phase }, { on := 1, ground := Ground.phase }, { on := 2, ground := Ground.phase }, { on := 3, ground := Ground.phase }, { on := 4, ground := Ground.phase }], guard := none }) 5 (some 17) (v := ?v5_207) rfl rfl (by kernel_rfl) (by kernel_rfl) (by kernel_rfl) (fun _ _ _ h => h) (by kernel_rfl) ?hy207 hH2 ?_
  case hy207 => (intro w_ hSw; (try dsimp only at hSw); (obtain ⟨x0, x1, x2, y0, y1, y2, y3, y4⟩ := hSw.cells; go_simp; (first | done | with_reducible rfl)))
  simp only [Act.put, List.setIfInBounds_toArray, List.set_cons_zero, List.set_cons_succ]
  refine wpAnyH_done (by kernel_rfl) ?_ _
  have hEnd := hH2
  clear hH2
  have HZ := Lib.hid hEnd
  obtain ⟨E1, d1, rfl, -, hC1⟩ := Kd.R_reads hR1
  obtain ⟨E2, d2, rfl, -, hC2⟩ := Kd.R_reads hR2
  have HC1 := Lib.hid (Kd.C_below hC1 hbh)
  have HC2 := Lib.hid hC2
  clear hR1 hR2 hC1 hC2 hbg hbh hEnd HB
  have HEN := Lib.hid (fun (e : SEntry) (he : e ∈ entries i1 s1 l1) => (entryNum_back he).1)
  have HES := Lib.hid (fun (e : SEntry) (he : e ∈ entries i1 s1 l1) => entries_short he)
  have hm1 := Kd.C_max HC1.out
  generalize entries i1 s1 l1 = L at HC1 HC2 HEN HES hm1
  obtain ⟨p0, p1, p2, k1, b1, hk1, hP1, hP2⟩ := both_v i1 s hs
  obtain ⟨r0, r1, r2, r3, r4, k2, b2, hk2, hP3, hP4⟩ := both_e i2 s hs
  have HP1 := Lib.hid hP1; have HP2 := Lib.hid hP2; have HP3 := Lib.hid hP3; have HP4 := Lib.hid hP4
  have HK := Lib.hid (And.intro hk1 hk2)
  clear hP1 hP2 hP3 hP4 hk1 hk2
  go_wp2_with fail
  go_loopw [18] (fun v18 wr => ∃ i : Nat, i ≤ L.length ∧ v18 = .int .i64 i ∧ Hid (Below wh.heap.size wh wr)) (fun v18 _ => L.length - (intOf v18).toNat)
  case atStart => exact ⟨0, by omega, rfl, Lib.hid (Below.refl _ _)⟩
  case round =>
    obtain ⟨i, hi, rfl, HI⟩ := hrel
    have HB := Lib.hid (HZ.out.keep HI.out)
    by_cases hlt : i < L.length
    · have hlt2 : (i : Int) < (L.length : Int) := by omega
      obtain ⟨ad, rfl, g0, g1⟩ := at_Entry (Kd.C_below HC1.out HI.out) (i : Int) (by omega) (by omega)
      obtain ⟨bd, rfl, f0, f1⟩ := at_Entry (Kd.C_below HC2.out HI.out) (i : Int) (by omega) (by omega)
      simp only [Int.toNat_natCast, rd_Entry] at g0 g1 f0 f1
      have hmm : L.getD i zEntry ∈ L := by simp [List.getD_eq_getElem?_getD, List.getElem?_eq_getElem hlt]
      have hen := HEN.out _ hmm
      have hes := HES.out _ hmm
      obtain ⟨⟨e0, e1⟩, hy⟩ : ∃ q, L.getD i zEntry = q := ⟨_, rfl⟩
      rw [hy] at g0 g1 f0 f1 hen hes
      clear hy hmm
      simp only at g0 g1 f0 f1 hen hes
      have HEN2 := Lib.hid hen; clear hen
      have q := eq_Entry (decide_eq_true (Eq.refl (⟨e0, e1⟩ : SEntry)))
      have x0 := HB.out.cells.1
      go_wp2_with fail
      refine wp_region_held_drew (S := (fun w' => Below wr.heap.size wr w')) (by kernel_rfl) ?hS301 (fun hH0 => ?_)
      case hS301 => exact below_drew (Below.refl _ _)
      refine takeY (oi := { dst := some 190, op := Op.move (Operand.tmp 16), type := 36, pos := "law.go:64", after := #[], guard := none }) 0 (some 190) (v := ?v0_302) rfl rfl (by kernel_rfl) (by kernel_rfl) (by kernel_rfl) (fun _ _ _ h => h) (by kernel_rfl) ?hy302 hH0 ?_
      case hy302 => (intro w_ hSw; (try dsimp only at hSw); (have a0 := pw_cell_below hSw g0; have a1 := pw_cell_below hSw g1; have b0 := pw_cell_below hSw f0; have b1 := pw_cell_below hSw f1; have z0 := pw_cell_below hSw x0; go_simp; (first | done | with_reducible rfl | rw [if_neg (by omega)])))
      simp only [Act.put, List.setIfInBounds_toArray, List.set_cons_zero, List.set_cons_succ]
      refine takeY (oi := { dst := some 191, op := Op.move (Operand.tmp 18), type := 3, pos := "law.go:64", after := #[], guard := none }) 1 (some 191) (v := ?v1_303) rfl rfl (by kernel_rfl) (by kernel_rfl) (by kernel_rfl) (fun _ _ _ h => h) (by kernel_rfl) ?hy303 hH0 ?_
      case hy303 => (intro w_ hSw; (try dsimp only at hSw); (have a0 := pw_cell_below hSw g0; have a1 := pw_cell_below hSw g1; have b0 := pw_cell_below hSw f0; have b1 := pw_cell_below hSw f1; have z0 := pw_cell_below hSw x0; go_simp; (first | done | with_reducible rfl | rw [if_neg (by omega)])))
      simp only [Act.put, List.setIfInBounds_toArray, List.set_cons_zero, List.set_cons_succ]
      refine takeY (oi := { dst := some 192, op := Op.indexAddr 36 (Operand.tmp 190) (Operand.tmp 191), type := 0, pos := "law.go:64", after := #[{ on := 0, ground := Ground.data }, { on := 1, ground := Ground.data }], guard := none }) 2 (some 192) (v := ?v2_304) rfl rfl (by kernel_rfl) (by kernel_rfl) (by kernel_rfl) (fun _ _ _ h => h) (by kernel_rfl) ?hy304 hH0 ?_
      case hy304 => (intro w_ hSw; (try dsimp only at hSw); (have a0 := pw_cell_below hSw g0; have a1 := pw_cell_below hSw g1; have b0 := pw_cell_below hSw f0; have b1 := pw_cell_below hSw f1; have z0 := pw_cell_below hSw x0; go_simp; (first | done | with_reducible rfl | rw [if_neg (by omega)])))
      simp only [Act.put, List.setIfInBounds_toArray, List.set_cons_zero, List.set_cons_succ]
      refine takeY (oi := { dst := some 193, op := Op.load 39 (Operand.tmp 192), type := 39, pos := "law.go:64", after := #[{ on := 2, ground := Ground.data }], guard := none }) 3 (some 193) (v := ?v3_305) rfl rfl (by kernel_rfl) (by kernel_rfl) (by kernel_rfl) (fun _ _ _ h => h) (by kernel_rfl) ?hy305 hH0 ?_
      case hy305 => (intro w_ hSw; (try dsimp only at hSw); (have a0 := pw_cell_below hSw g0; have a1 := pw_cell_below hSw g1; have b0 := pw_cell_below hSw f0; have b1 := pw_cell_below hSw f1; have z0 := pw_cell_below hSw x0; go_simp; (first | done | with_reducible rfl | rw [if_neg (by omega)])))
      simp only [Act.put, List.setIfInBounds_toArray, List.set_cons_zero, List.set_cons_succ]
      refine takeY (oi := { dst := some 194, op := Op.move (Operand.tmp 17), type := 36, pos := "law.go:64", after := #[], guard := none }) 4 (some 194) (v := ?v4_306) rfl rfl (by kernel_rfl) (by kernel_rfl) (by kernel_rfl) (fun _ _ _ h => h) (by kernel_rfl) ?hy306 hH0 ?_
      case hy306 => (intro w_ hSw; (try dsimp only at hSw); (have a0 := pw_cell_below hSw g0; have a1 := pw_cell_below hSw g1; have b0 := pw_cell_below hSw f0; have b1 := pw_cell_below hSw f1; have z0 := pw_cell_below hSw x0; go_simp; (first | done | with_reducible rfl | rw [if_neg (by omega)])))
      simp only [Act.put, List.setIfInBounds_toArray, List.set_cons_zero, List.set_cons_succ]
      refine takeY (oi := { dst := some 195, op := Op.move (Operand.tmp 18), type := 3, pos := "law.go:64", after := #[], guard := none }) 5 (some 195) (v := ?v5_307) rfl rfl (by kernel_rfl) (by kernel_rfl) (by kernel_rfl) (fun _ _ _ h => h) (by kernel_rfl) ?hy307 hH0 ?_
      case hy307 => (intro w_ hSw; (try dsimp only at hSw); (have a0 := pw_cell_below hSw g0; have a1 := pw_cell_below hSw g1; have b0 := pw_cell_below hSw f0; have b1 := pw_cell_below hSw f1; have z0 := pw_cell_below hSw x0; go_simp; (first | done | with_reducible rfl | rw [if_neg (by omega)])))
      simp only [Act.put, List.setIfInBounds_toArray, List.set_cons_zero, List.set_cons_succ]
      refine takeY (oi := { dst := some 196, op := Op.indexAddr 36 (Operand.tmp 194) (Operand.tmp 195), type := 0, pos := "law.go:64", after := #[{ on := 4, ground := Ground.data }, { on := 5, ground := Ground.data }], guard := none }) 6 (some 196) (v := ?v6_308) rfl rfl (by kernel_rfl) (by kernel_rfl) (by kernel_rfl) (fun _ _ _ h => h) (by kernel_rfl) ?hy308 hH0 ?_
      case hy308 => (intro w_ hSw; (try dsimp only at hSw); (have a0 := pw_cell_below hSw g0; have a1 := pw_cell_below hSw g1; have b0 := pw_cell_below hSw f0; have b1 := pw_cell_below hSw f1; have z0 := pw_cell_below hSw x0; go_simp; (first | done | with_reducible rfl | rw [if_neg (by omega)])))
      simp only [Act.put, List.setIfInBounds_toArray, List.set_cons_zero, List.set_cons_succ]
      refine takeY (oi := { dst := some 197, op := Op.load 39 (Operand.tmp 196), type := 39, pos := "law.go:64", after := #[{ on := 6, ground := Ground.data }], guard := none }) 7 (some 197) (v := ?v7_309) rfl rfl (by kernel_rfl) (by kernel_rfl) (by kernel_rfl) (fun _ _ _ h => h) (by kernel_rfl) ?hy309 hH0 ?_
      case hy309 => (intro w_ hSw; (try dsimp only at hSw); (have a0 := pw_cell_below hSw g0; have a1 := pw_cell_below hSw g1; have b0 := pw_cell_below hSw f0; have b1 := pw_cell_below hSw f1; have z0 := pw_cell_below hSw x0; go_simp; (first | done | with_reducible rfl | rw [if_neg (by omega)])))
      simp only [Act.put, List.setIfInBounds_toArray, List.set_cons_zero, List.set_cons_succ]
      refine takeY (oi := { dst := some 198, op := Op.binOp BinOp.neq 39 (Operand.tmp 193) (Operand.tmp 197) 39, type := 4, pos := "law.go:64", after := #[{ on := 3, ground := Ground.data }, { on := 7, ground := Ground.data }], guard := none }) 8 (some 198) (v := ?v8_310) rfl rfl (by kernel_rfl) (by kernel_rfl) (by kernel_rfl) (fun _ _ _ h => h) (by kernel_rfl) ?hy310 hH0 ?_
      case hy310 => (intro w_ hSw; (try dsimp only at hSw); (have a0 := pw_cell_below hSw g0; have a1 := pw_cell_below hSw g1; have b0 := pw_cell_below hSw f0; have b1 := pw_cell_below hSw f1; have z0 := pw_cell_below hSw x0; go_simp; (first | done | with_reducible rfl | rw [if_neg (by omega)])))
      simp only [Act.put, List.setIfInBounds_toArray, List.set_cons_zero, List.set_cons_succ]
      refine takeY (oi := { dst := some 199, op := Op.move (Operand.tmp 198), type := 4, pos := "law.go:64", after := #[{ on := 8, ground := Ground.data }], guard := none }) 9 (some 199) (v := ?v9_311) rfl rfl (by kernel_rfl) (by kernel_rfl) (by kernel_rfl) (fun _ _ _ h => h) (by kernel_rfl) ?hy311 hH0 ?_
      case hy311 => (intro w_ hSw; (try dsimp only at hSw); (have a0 := pw_cell_below hSw g0; have a1 := pw_cell_below hSw g1; have b0 := pw_cell_below hSw f0; have b1 := pw_cell_below hSw f1; have z0 := pw_cell_below hSw x0; go_simp; (first | done | with_reducible rfl | rw [if_neg (by omega)])))
      simp only [Act.put, List.setIfInBounds_toArray, List.set_cons_zero, List.set_cons_succ]
      refine takeY (oi := { dst := some 200, op := Op.move (Operand.tmp 16), type := 36, pos := "law.go:64", after := #[{ on := 9, ground := Ground.guard }], guard := some (9, false) }) 10 (some 200) (v := ?v10_312) rfl rfl (by kernel_rfl) (by kernel_rfl) (by kernel_rfl) (fun _ _ _ h => h) (by kernel_rfl) ?hy312 hH0 ?_
      case hy312 => (intro w_ hSw; (try dsimp only at hSw); (have a0 := pw_cell_below hSw g0; have a1 := pw_cell_below hSw g1; have b0 := pw_cell_below hSw f0; have b1 := pw_cell_below hSw f1; have z0 := pw_cell_below hSw x0; go_simp; (first | done | with_reducible rfl | rw [if_neg (by omega)])))
      simp only [Act.put, List.setIfInBounds_toArray, List.set_cons_zero, List.set_cons_succ]
      refine takeY (oi := { dst := some 201, op := Op.move (Operand.tmp 18), type := 3, pos := "law.go:64", after := #[{ on := 9, ground := Ground.guard }], guard := some (9, false) }) 11 (some 201) (v := ?v11_313) rfl rfl (by kernel_rfl) (by kernel_rfl) (by kernel_rfl) (fun _ _ _ h => h) (by kernel_rfl) ?hy313 hH0 ?_
      case hy313 => (intro w_ hSw; (try dsimp only at hSw); (have a0 := pw_cell_below hSw g0; have a1 := pw_cell_below hSw g1; have b0 := pw_cell_below hSw f0; have b1 := pw_cell_below hSw f1; have z0 := pw_cell_below hSw x0; go_simp; (first | done | with_reducible rfl | rw [if_neg (by omega)])))
      simp only [Act.put, List.setIfInBounds_toArray, List.set_cons_zero, List.set_cons_succ]
      refine takeY (oi := { dst := some 202, op := Op.indexAddr 36 (Operand.tmp 200) (Operand.tmp 201), type := 0, pos := "law.go:64", after := #[{ on := 10, ground := Ground.data }, { on := 11, ground := Ground.data }, { on := 9, ground := Ground.guard }], guard := some (9, false) }) 12 (some 202) (v := ?v12_314) rfl rfl (by kernel_rfl) (by kernel_rfl) (by kernel_rfl) (fun _ _ _ h => h) (by kernel_rfl) ?hy314 hH0 ?_
      case hy314 => (intro w_ hSw; (try dsimp only at hSw); (have a0 := pw_cell_below hSw g0; have a1 := pw_cell_below hSw g1; have b0 := pw_cell_below hSw f0; have b1 := pw_cell_below hSw f1; have z0 := pw_cell_below hSw x0; go_simp; (first | done | with_reducible rfl | rw [if_neg (by omega)])))
      simp only [Act.put, List.setIfInBounds_toArray, List.set_cons_zero, List.set_cons_succ]
      refine takeY (oi := { dst := some 203, op := Op.fieldAddr 39 (Operand.tmp 202) 1, type := 0, pos := "law.go:64", after := #[{ on := 12, ground := Ground.data }, { on := 9, ground := Ground.guard }], guard := some (9, false) }) 13 (some 203) (v := ?v13_315) rfl rfl (by kernel_rfl) (by kernel_rfl) (by kernel_rfl) (fun _ _ _ h => h) (by kernel_rfl) ?hy315 hH0 ?_
      case hy315 => (intro w_ hSw; (try dsimp only at hSw); (have a0 := pw_cell_below hSw g0; have a1 := pw_cell_below hSw g1; have b0 := pw_cell_below hSw f0; have b1 := pw_cell_below hSw f1; have z0 := pw_cell_below hSw x0; go_simp; (first | done | with_reducible rfl | rw [if_neg (by omega)])))
      simp only [Act.put, List.setIfInBounds_toArray, List.set_cons_zero, List.set_cons_succ]
      refine takeY (oi := { dst := some 204, op := Op.load 9 (Operand.tmp 203), type := 9, pos := "law.go:64", after := #[{ on := 13, ground := Ground.data }, { on := 9, ground := Ground.guard }], guard := some (9, false) }) 14 (some 204) (v := ?v14_316) rfl rfl (by kernel_rfl) (by kernel_rfl) (by kernel_rfl) (fun _ _ _ h => h) (by kernel_rfl) ?hy316 hH0 ?_
      case hy316 => (intro w_ hSw; (try dsimp only at hSw); (have a0 := pw_cell_below hSw g0; have a1 := pw_cell_below hSw g1; have b0 := pw_cell_below hSw f0; have b1 := pw_cell_below hSw f1; have z0 := pw_cell_below hSw x0; go_simp; (first | done | with_reducible rfl | rw [if_neg (by omega)])))
      simp only [Act.put, List.setIfInBounds_toArray, List.set_cons_zero, List.set_cons_succ]
      refine takeY (oi := { dst := some 206, op := Op.fieldAddr 24 (Operand.tmp 3) 0, type := 0, pos := "law.go:64", after := #[{ on := 9, ground := Ground.guard }], guard := some (9, false) }) 16 (some 206) (v := ?v16_317) rfl rfl (by kernel_rfl) (by kernel_rfl) (by kernel_rfl) (fun _ _ _ h => h) (by kernel_rfl) ?hy317 hH0 ?_
      case hy317 => (intro w_ hSw; (try dsimp only at hSw); (have a0 := pw_cell_below hSw g0; have a1 := pw_cell_below hSw g1; have b0 := pw_cell_below hSw f0; have b1 := pw_cell_below hSw f1; have z0 := pw_cell_below hSw x0; go_simp; (first | done | with_reducible rfl | rw [if_neg (by omega)])))
      simp only [Act.put, List.setIfInBounds_toArray, List.set_cons_zero, List.set_cons_succ]
      refine takeY (oi := { dst := some 207, op := Op.load 3 (Operand.tmp 206), type := 3, pos := "law.go:64", after := #[{ on := 16, ground := Ground.data }, { on := 9, ground := Ground.guard }], guard := some (9, false) }) 17 (some 207) (v := ?v17_318) rfl rfl (by kernel_rfl) (by kernel_rfl) (by kernel_rfl) (fun _ _ _ h => h) (by kernel_rfl) ?hy318 hH0 ?_
      case hy318 => (intro w_ hSw; (try dsimp only at hSw); (have a0 := pw_cell_below hSw g0; have a1 := pw_cell_below hSw g1; have b0 := pw_cell_below hSw f0; have b1 := pw_cell_below hSw f1; have z0 := pw_cell_below hSw x0; go_simp; (first | done | with_reducible rfl | rw [if_neg (by omega)])))
      simp only [Act.put, List.setIfInBounds_toArray, List.set_cons_zero, List.set_cons_succ]
      refine wpAnyH_ready (rs := [15]) (by kernel_rfl) (by simp) ?_
      refine AllReadyH.cons (o := { dst := some 205, op := Op.call { callee := Callee.value (Operand.func 32), args := #[Operand.tmp 204], argTypes := #[9] }, type := 3, pos := "law.go:64", after := #[{ on := 14, ground := Ground.data }, { on := 9, ground := Ground.chain }, { on := 9, ground := Ground.guard }], guard := some (9, false) }) rfl (fun K1 hK1 => ?_) AllReadyH.nil
      go_simp; refine (web_EntryID_calls e1 _ (by omega)).mono ?_; rw [HEN2.out]; rintro e w9 ⟨rfl, hb9⟩
      refine hK1.out _ _ ?hS319 (fun hH1 => ?_)
      case hS319 => ((try dsimp only); (exact keepB0 hb9 hH0))
      clear hK1 K1
      (try clear hH0)
      (try simp only [Act.put, List.setIfInBounds_toArray, List.set_cons_zero, List.set_cons_succ])
      refine takeY (oi := { dst := some 208, op := Op.binOp BinOp.neq 3 (Operand.tmp 205) (Operand.tmp 207) 3, type := 4, pos := "law.go:64", after := #[{ on := 15, ground := Ground.data }, { on := 17, ground := Ground.data }, { on := 9, ground := Ground.guard }], guard := some (9, false) }) 18 (some 208) (v := ?v18_320) rfl rfl (by kernel_rfl) (by kernel_rfl) (by kernel_rfl) (fun _ _ _ h => h) (by kernel_rfl) ?hy320 hH1 ?_
      case hy320 => (intro w_ hSw; (try dsimp only at hSw); (have a0 := pw_cell_below hSw g0; have a1 := pw_cell_below hSw g1; have b0 := pw_cell_below hSw f0; have b1 := pw_cell_below hSw f1; have z0 := pw_cell_below hSw x0; go_simp; (first | done | with_reducible rfl | rw [if_neg (by omega)])))
      simp only [Act.put, List.setIfInBounds_toArray, List.set_cons_zero, List.set_cons_succ]
      refine takeY (oi := { dst := some 209, op := Op.pick (Operand.tmp 199) (Operand.const (Value.bool true)) (Operand.tmp 208), type := 4, pos := "law.go:64", after := #[{ on := 9, ground := Ground.data }, { on := 18, ground := Ground.data }], guard := none }) 19 (some 209) (v := ?v19_321) rfl rfl (by kernel_rfl) (by kernel_rfl) (by kernel_rfl) (fun _ _ _ h => h) (by kernel_rfl) ?hy321 hH1 ?_
      case hy321 => (intro w_ hSw; (try dsimp only at hSw); (have a0 := pw_cell_below hSw g0; have a1 := pw_cell_below hSw g1; have b0 := pw_cell_below hSw f0; have b1 := pw_cell_below hSw f1; have z0 := pw_cell_below hSw x0; go_simp; (first | done | with_reducible rfl | rw [if_neg (by omega)])))
      simp only [Act.put, List.setIfInBounds_toArray, List.set_cons_zero, List.set_cons_succ]
      refine wpAnyH_done (by kernel_rfl) ?_ _
      have hEnd := hH1
      clear hH1
      have HI2 := Lib.hid (keepB0 hEnd HI.out)
      clear hEnd
      go_wp2
      go_roundw
      case rel => exact ⟨i + 1, by omega, by go_num, HI2⟩
      case measure => simp [intOf]; omega
    · have hlt2 : ¬ (i : Int) < (L.length : Int) := by omega
      obtain ⟨x0, x1, x2, y0, y1, y2, y3, y4⟩ := HB.out.cells
      clear HI HC1 HC2 HEN HES
      rcases HK.out with ⟨⟨rfl, rfl⟩ | ⟨rfl, rfl⟩, ⟨rfl, rfl⟩ | ⟨rfl, rfl⟩⟩
      all_goals
        clear HK
        go_wp2_with (first
          | (go_at_call 37; refine (HP1.out _).mono ?_; rintro e wp1 ⟨B1, d1, rfl, hle, hC, hb⟩; have K1 := Lib.hid (blk_new wp1 #[.int .i64 p0, .string p1, .slice B1 p2.length d1] 24); have R1 := Lib.hid (And.intro hle (Kd.C_alloc hC (.cells #[.int .i64 p0, .string p1, .slice B1 p2.length d1] 24))); clear x0 x1 x2 y0 y1 y2 y3 y4; replace HB := Lib.hid ((HB.out.keep hb).keep (below_al wp1 (.cells #[.int .i64 p0, .string p1, .slice B1 p2.length d1] 24))); obtain ⟨x0, x1, x2, y0, y1, y2, y3, y4⟩ := HB.out.cells; clear hle hC hb)
          | (go_at_call 42; refine (HP2.out _).mono ?_; rintro e wp2 ⟨B2, d2, rfl, hle, hC, hb⟩; replace K1 := Lib.hid (blk_alloc (blk_below hb K1.out) (.cells #[.int .i64 p0, .string p1, .slice B2 p2.length d2] 24)); replace R1 := Lib.hid (And.intro R1.out.1 (Kd.C_alloc (Kd.C_below R1.out.2 hb) (.cells #[.int .i64 p0, .string p1, .slice B2 p2.length d2] 24))); have K2 := Lib.hid (blk_new wp2 #[.int .i64 p0, .string p1, .slice B2 p2.length d2] 24); have R2 := Lib.hid (And.intro hle (Kd.C_alloc hC (.cells #[.int .i64 p0, .string p1, .slice B2 p2.length d2] 24))); clear x0 x1 x2 y0 y1 y2 y3 y4; replace HB := Lib.hid ((HB.out.keep hb).keep (below_al wp2 (.cells #[.int .i64 p0, .string p1, .slice B2 p2.length d2] 24))); obtain ⟨x0, x1, x2, y0, y1, y2, y3, y4⟩ := HB.out.cells; clear hle hC hb)
          | (go_at_call 39; refine (HP3.out _).mono ?_; rintro e wp3 ⟨B3, d3, rfl, hle, hC, hb⟩; replace K1 := Lib.hid (blk_alloc (blk_below hb K1.out) (.cells #[.int .i64 r0, .string r1, .int .i64 r2, .int .i64 r3, .slice B3 r4.length d3] 35)); replace R1 := Lib.hid (And.intro R1.out.1 (Kd.C_alloc (Kd.C_below R1.out.2 hb) (.cells #[.int .i64 r0, .string r1, .int .i64 r2, .int .i64 r3, .slice B3 r4.length d3] 35))); replace K2 := Lib.hid (blk_alloc (blk_below hb K2.out) (.cells #[.int .i64 r0, .string r1, .int .i64 r2, .int .i64 r3, .slice B3 r4.length d3] 35)); replace R2 := Lib.hid (And.intro R2.out.1 (Kd.C_alloc (Kd.C_below R2.out.2 hb) (.cells #[.int .i64 r0, .string r1, .int .i64 r2, .int .i64 r3, .slice B3 r4.length d3] 35))); have K3 := Lib.hid (blk_new wp3 #[.int .i64 r0, .string r1, .int .i64 r2, .int .i64 r3, .slice B3 r4.length d3] 35); have R3 := Lib.hid (And.intro hle (Kd.C_alloc hC (.cells #[.int .i64 r0, .string r1, .int .i64 r2, .int .i64 r3, .slice B3 r4.length d3] 35))); clear x0 x1 x2 y0 y1 y2 y3 y4; replace HB := Lib.hid ((HB.out.keep hb).keep (below_al wp3 (.cells #[.int .i64 r0, .string r1, .int .i64 r2, .int .i64 r3, .slice B3 r4.length d3] 35))); obtain ⟨x0, x1, x2, y0, y1, y2, y3, y4⟩ := HB.out.cells; clear hle hC hb)
          | (go_at_call 43; refine (HP4.out _).mono ?_; rintro e wp4 ⟨B4, d4, rfl, hle, hC, hb⟩; replace K1 := Lib.hid (blk_alloc (blk_below hb K1.out) (.cells #[.int .i64 r0, .string r1, .int .i64 r2, .int .i64 r3, .slice B4 r4.length d4] 35)); replace R1 := Lib.hid (And.intro R1.out.1 (Kd.C_alloc (Kd.C_below R1.out.2 hb) (.cells #[.int .i64 r0, .string r1, .int .i64 r2, .int .i64 r3, .slice B4 r4.length d4] 35))); replace K2 := Lib.hid (blk_alloc (blk_below hb K2.out) (.cells #[.int .i64 r0, .string r1, .int .i64 r2, .int .i64 r3, .slice B4 r4.length d4] 35)); replace R2 := Lib.hid (And.intro R2.out.1 (Kd.C_alloc (Kd.C_below R2.out.2 hb) (.cells #[.int .i64 r0, .string r1, .int .i64 r2, .int .i64 r3, .slice B4 r4.length d4] 35))); replace K3 := Lib.hid (blk_alloc (blk_below hb K3.out) (.cells #[.int .i64 r0, .string r1, .int .i64 r2, .int .i64 r3, .slice B4 r4.length d4] 35)); replace R3 := Lib.hid (And.intro R3.out.1 (Kd.C_alloc (Kd.C_below R3.out.2 hb) (.cells #[.int .i64 r0, .string r1, .int .i64 r2, .int .i64 r3, .slice B4 r4.length d4] 35))); have K4 := Lib.hid (blk_new wp4 #[.int .i64 r0, .string r1, .int .i64 r2, .int .i64 r3, .slice B4 r4.length d4] 35); have R4 := Lib.hid (And.intro hle (Kd.C_alloc hC (.cells #[.int .i64 r0, .string r1, .int .i64 r2, .int .i64 r3, .slice B4 r4.length d4] 35))); clear x0 x1 x2 y0 y1 y2 y3 y4; replace HB := Lib.hid ((HB.out.keep hb).keep (below_al wp4 (.cells #[.int .i64 r0, .string r1, .int .i64 r2, .int .i64 r3, .slice B4 r4.length d4] 35))); obtain ⟨x0, x1, x2, y0, y1, y2, y3, y4⟩ := HB.out.cells; clear hle hC hb; have a0 := blk_cell K1.out 0; have b0 := fun o => blk_cell (blk_alloc K2.out o) 0; have a1 := blk_cell K1.out 1; have b1 := fun o => blk_cell (blk_alloc K2.out o) 1; have a2 := blk_cell K1.out 2; have b2 := fun o => blk_cell (blk_alloc K2.out o) 2; simp only [List.getElem?_toArray, List.getElem?_cons_zero, List.getElem?_cons_succ] at a0 a1 a2 b0 b1 b2)
          | (go_at_call 18; refine (ref16_SameV_calls _ _ 1 1 [⟨p0, p1, p2⟩] [⟨p0, p1, p2⟩] _ (Kd.C_alloc (C_boxg kVert (by decide) _ _ (by simp) ⟨p0, p1, p2⟩ #[.int .i64 p0, .string p1, .slice B1 p2.length d1] _ (kVert_mk _ _ R1.out.1 (Kd.C_alloc R1.out.2 _))) _) (C_boxg kVert (by decide) _ _ (by simp) ⟨p0, p1, p2⟩ #[.int .i64 p0, .string p1, .slice B2 p2.length d2] _ (kVert_mk _ _ R2.out.1 (Kd.C_alloc (Kd.C_alloc R2.out.2 _) _)))).mono ?_; rw [decide_eq_true rfl]; rintro e we ⟨rfl, hq⟩; clear a0 a1 a2 b0 b1 b2; replace K3 := Lib.hid (blk_below (quiet_below hq _) (blk_alloc (blk_alloc K3.out _) _)); replace K4 := Lib.hid (blk_below (quiet_below hq _) (blk_alloc (blk_alloc K4.out _) _)); replace R3 := Lib.hid (And.intro R3.out.1 (Kd.C_below (Kd.C_alloc (Kd.C_alloc R3.out.2 _) _) (quiet_below hq _))); replace R4 := Lib.hid (And.intro R4.out.1 (Kd.C_below (Kd.C_alloc (Kd.C_alloc R4.out.2 _) _) (quiet_below hq _))); clear x0 x1 x2 y0 y1 y2 y3 y4; replace HB := Lib.hid (((HB.out.keep (below_al _ _)).keep (below_al _ _)).keep (quiet_below hq _)); obtain ⟨x0, x1, x2, y0, y1, y2, y3, y4⟩ := HB.out.cells; clear hq; have a0 := blk_cell K3.out 0; have b0 := fun o => blk_cell (blk_alloc K4.out o) 0; have a1 := blk_cell K3.out 1; have b1 := fun o => blk_cell (blk_alloc K4.out o) 1; have a2 := blk_cell K3.out 2; have b2 := fun o => blk_cell (blk_alloc K4.out o) 2; have a3 := blk_cell K3.out 3; have b3 := fun o => blk_cell (blk_alloc K4.out o) 3; have a4 := blk_cell K3.out 4; have b4 := fun o => blk_cell (blk_alloc K4.out o) 4; simp only [List.getElem?_toArray, List.getElem?_cons_zero, List.getElem?_cons_succ] at a0 a1 a2 a3 a4 b0 b1 b2 b3 b4)
          | (go_at_call 40; refine (ref16_SameE_calls _ _ 1 1 [⟨r0, r1, r2, r3, r4⟩] [⟨r0, r1, r2, r3, r4⟩] _ (Kd.C_alloc (C_boxg kEdg (by decide) _ _ (by simp) ⟨r0, r1, r2, r3, r4⟩ #[.int .i64 r0, .string r1, .int .i64 r2, .int .i64 r3, .slice B3 r4.length d3] _ (kEdg_mk _ _ R3.out.1 (Kd.C_alloc R3.out.2 _))) _) (C_boxg kEdg (by decide) _ _ (by simp) ⟨r0, r1, r2, r3, r4⟩ #[.int .i64 r0, .string r1, .int .i64 r2, .int .i64 r3, .slice B4 r4.length d4] _ (kEdg_mk _ _ R4.out.1 (Kd.C_alloc (Kd.C_alloc R4.out.2 _) _)))).mono ?_; rw [decide_eq_true rfl]; rintro e wf ⟨rfl, hq⟩; have HL := Lib.hid (((HB.out.keep (below_al _ _)).keep (below_al _ _)).keep (quiet_below hq _)); clear hq))
        go_ret
        exact ⟨rfl, HL.out.low⟩
end Go.Proofs.Ytonbnlfijmapfaa
/- cobweblaw21.WebTexts: true, whatever comes in. -/
namespace Go.Proofs.Ytonbnlfijmapfaa
open Go.RowKit Go.Shelf Go.Proofs.YtonbnlfijmapfaaW.PrintWords
set_option linter.unusedVariables false
set_option linter.unusedSimpArgs false

theorem law21_WebTexts_calls (i1 i2 x y : Int) (s1 s2 s : ByteArray) (A1 A2 : Option Addr) (c1 c2 : Nat) (l1 l2 : List SPrp) (w : World) (h1 : PropsIn w A1 c1 l1) (h2 : PropsIn w A2 c2 l2) :
    Calls Try.prog 6 #[.agg #[.int .i64 i1, .string s1, .slice A1 l1.length c1], .agg #[.int .i64 i2, .string s2, .int .i64 x, .int .i64 y, .slice A2 l2.length c2], .string s] w fun e w' => e = .returned (.bool true) ∧ Below w.heap.size w w' := by
  cases p1 : lawProps l1 with
  | false => exact law21_WebTexts_no i1 i2 x y s1 s2 s A1 A2 c1 c2 l1 l2 w h1 h2 (.inl p1)
  | true =>
  cases p2 : lawProps l2 with
  | false => exact law21_WebTexts_no i1 i2 x y s1 s2 s A1 A2 c1 c2 l1 l2 w h1 h2 (.inr ⟨p1, .inl p2⟩)
  | true =>
  by_cases q0 : s.size ≤ 2000
  · by_cases q1 : s1.size ≤ 200
    · by_cases q2 : s2.size ≤ 200
      · exact law21_WebTexts_good i1 i2 x y s1 s2 s A1 A2 c1 c2 l1 l2 w h1 h2 p1 p2 q0 q1 q2
      · exact law21_WebTexts_no i1 i2 x y s1 s2 s A1 A2 c1 c2 l1 l2 w h1 h2 (.inr ⟨p1, .inr ⟨p2, .inr ⟨q0, .inr ⟨q1, by omega⟩⟩⟩⟩)
    · exact law21_WebTexts_no i1 i2 x y s1 s2 s A1 A2 c1 c2 l1 l2 w h1 h2 (.inr ⟨p1, .inr ⟨p2, .inr ⟨q0, .inl (by omega)⟩⟩⟩)
  · exact law21_WebTexts_no i1 i2 x y s1 s2 s A1 A2 c1 c2 l1 l2 w h1 h2 (.inr ⟨p1, .inr ⟨p2, .inl (by omega)⟩⟩)
end Go.Proofs.Ytonbnlfijmapfaa
/- What came in, opened: from the way a datum reads to the kinds of rows. No condition. -/
namespace Go.Proofs.Ytonbnlfijmapfaa
open Go.RowKit Go.Proofs.YtonbnlfijmapfaaW.PrintWords
set_option linter.unusedVariables false
set_option linter.unusedSimpArgs false

/-- A datum of type T reads as one of the kind d, with g. -/
def Opens {α : Type} (d : Kd α) (T : TypeId) (g : α → Prop) : Prop :=
  ∀ {H : Type} (enc : TypeId × Value → H) (w : World) (sp : Nat → Bool) (held : Bool) (fuel : Nat) (cs : List Value) (x : DataW H × List MemPlace), DataW.trod enc Try.prog w 0 sp held fuel T cs = some x → ∃ a, d.K w a cs ∧ g a

theorem opens_int {T : TypeId} {k : IntKind} (ht : Try.prog.underlying T = some (.int k)) : Opens (Kd.int k) T (fun n => (Lit.int k n).wf = true) := by
  intro H enc w sp held fuel cs x h
  obtain ⟨n, rfl, _, hw⟩ := DataW.trod_int ht h
  exact ⟨n, rfl, hw⟩
theorem opens_string {T : TypeId} (ht : Try.prog.underlying T = some .string) : Opens Kd.string T (fun s => s.size ≤ maxLen) := by
  intro H enc w sp held fuel cs x h
  obtain ⟨s, rfl, _, hw⟩ := DataW.trod_string ht h
  exact ⟨s, rfl, hw⟩
theorem cells_each {w : World} {base : Nat} {a : Addr} {n : Nat} {cs : List Value} (h : w.cells? base a n = some cs) : cs.length = n ∧ ∀ i u, cs[i]? = some u → w.cell? (a.add i) = some u := by
  unfold World.cells? at h
  split at h
  · have hl := mapM_some_length h
    rw [List.length_range] at hl
    refine ⟨hl, fun i u hu => ?_⟩
    have hi : i < n := by
      rcases Nat.lt_or_ge i cs.length with h2 | h2
      · omega
      · rw [List.getElem?_eq_none h2] at hu; cases hu
    rw [mapM_some_get h i i (by simp [hi])]; exact hu
  · cases h
theorem add_add_ (ad : Addr) (i j : Nat) : (ad.add i).add j = ad.add (i + j) := by
  unfold Addr.add
  by_cases hi : i = 0 <;> by_cases hj : j = 0 <;> simp [hi, hj, Nat.add_assoc]
theorem opens_slice {α : Type} [Inhabited α] {d : Kd α} {T e : TypeId} {g : α → Prop} (ht : Try.prog.underlying T = some (.slice e)) (hc : Try.prog.cellsOf e = d.sz) (ho : Opens d e g) : Opens (Kd.slice e d) T (fun l => ∀ x ∈ l, g x) := by
  intro H enc w sp held fuel cs x h
  rcases DataW.trod_slice ht h with ⟨rfl, _⟩ | ⟨a, len, cap, elems, rest, n, _, rfl, _, _, hl, hm, hlen, hel, _, _⟩
  · exact ⟨[], ⟨none, 0, rfl, Nat.le_refl _, Kd.C_nil _ _⟩, fun x hx => by simp at hx⟩
  · have key : ∀ i, i < len → ∃ y cs', w.cells? 0 (a.add (i * Try.prog.cellsOf e)) (Try.prog.cellsOf e) = some cs' ∧ d.K w y cs' ∧ g y := by
      intro i hi
      have := hel i hi
      rw [List.getElem?_eq_getElem (by omega)] at this
      obtain ⟨cs', h1, h2⟩ := Option.bind_eq_some_iff.1 this
      obtain ⟨y, hk, hg⟩ := ho enc w sp held n cs' _ h2
      exact ⟨y, cs', h1, hk, hg⟩
    obtain ⟨f, hf⟩ := Go.Deep.choose_lt key
    have hlr : ((List.range len).map f).length = len := by simp
    refine ⟨(List.range len).map f, ⟨some a, cap, by rw [hlr], by rw [hlr]; exact hl, ?_⟩, fun x hx => ?_⟩
    · rw [hlr]
      refine ⟨hlr, by simp only [maxLen] at hm; omega, fun _ => ⟨a, rfl, fun j p hj => ?_⟩⟩
      have hjl : j < len := by
        rcases Nat.lt_or_ge j len with h2 | h2
        · exact h2
        · rw [List.getElem?_eq_none (by rw [hlr]; exact h2)] at hj; cases hj
      obtain rfl : p = f j := by simp [hjl] at hj; exact hj.symm
      obtain ⟨cs', h1, h2, h3⟩ := hf j hjl
      rw [hc] at h1
      obtain ⟨e1, e2⟩ := cells_each h1
      exact ⟨cs', e1, h2, fun i u hu => by rw [← add_add_]; exact e2 i u hu⟩
    · simp only [List.mem_map, List.mem_range] at hx
      obtain ⟨j, hj, rfl⟩ := hx
      obtain ⟨_, _, _, h3⟩ := hf j hj
      exact h3
instance : Inhabited SPrp := ⟨zPrp⟩
instance : Inhabited SVert := ⟨zVert⟩
instance : Inhabited SEdg := ⟨zEdg⟩

theorem len2 {α : Type} {l : List α} (h : l.length = 2) : ∃ a b, l = [a, b] := by
  match l, h with
  | [a, b], _ => exact ⟨a, b, rfl⟩
theorem len3 {α : Type} {l : List α} (h : l.length = 3) : ∃ a b c, l = [a, b, c] := by
  match l, h with
  | [a, b, c], _ => exact ⟨a, b, c, rfl⟩
theorem len4 {α : Type} {l : List α} (h : l.length = 4) : ∃ a b c d, l = [a, b, c, d] := by
  match l, h with
  | [a, b, c, d], _ => exact ⟨a, b, c, d, rfl⟩
theorem len5 {α : Type} {l : List α} (h : l.length = 5) : ∃ a b c d e, l = [a, b, c, d, e] := by
  match l, h with
  | [a, b, c, d, e], _ => exact ⟨a, b, c, d, e, rfl⟩
theorem co_int : Try.prog.cellsOf 3 = 1 := by kernel_rfl
theorem co_string : Try.prog.cellsOf 9 = 1 := by kernel_rfl
theorem co_Value : Try.prog.cellsOf 42 = 3 := by kernel_rfl
theorem co_Prp : Try.prog.cellsOf 117 = 4 := by kernel_rfl
theorem co_slPrp : Try.prog.cellsOf 22 = 1 := by kernel_rfl
theorem co_Vert : Try.prog.cellsOf 24 = 3 := by kernel_rfl
theorem co_Edg : Try.prog.cellsOf 35 = 5 := by kernel_rfl
theorem opens_Value : Opens kValue 42 (fun v => (Lit.int .i64 v.f0).wf = true ∧ (Lit.int .i64 v.f1).wf = true ∧ v.f2.size ≤ maxLen) := by
  intro H enc w sp held fuel cs x h
  obtain ⟨xs, n, _, _, hl, hn, hx⟩ := DataW.trod_struct Try.underlying42 h
  have hl3 : cs.length = 3 := hl.trans co_Value
  have hn3 : xs.length = 3 := hn
  obtain ⟨c0, c1, c2, rfl⟩ := len3 hl3
  obtain ⟨x0, x1, x2, rfl⟩ := len3 hn3
  clear hl hn hl3 hn3 h
  obtain ⟨a0, k0, g0⟩ := opens_int Try.underlying3 enc w sp held n [c0] x0 (by have h := hx 0 _ rfl; simp [co_int, co_string, co_Value, co_Prp, co_slPrp] at h; exact h)
  obtain ⟨a1, k1, g1⟩ := opens_int Try.underlying3 enc w sp held n [c1] x1 (by have h := hx 1 _ rfl; simp [co_int, co_string, co_Value, co_Prp, co_slPrp] at h; exact h)
  obtain ⟨a2, k2, g2⟩ := opens_string Try.underlying9 enc w sp held n [c2] x2 (by have h := hx 2 _ rfl; simp [co_int, co_string, co_Value, co_Prp, co_slPrp] at h; exact h)
  cases k0; cases k1; cases k2
  exact ⟨⟨a0, a1, a2⟩, kValue_mk _ _, g0, g1, g2⟩
theorem opens_Prp : Opens kPrp 117 (fun p => p.f0.size ≤ maxLen ∧ (Lit.int .i64 p.f1.f0).wf = true ∧ (Lit.int .i64 p.f1.f1).wf = true ∧ p.f1.f2.size ≤ maxLen) := by
  intro H enc w sp held fuel cs x h
  obtain ⟨xs, n, _, _, hl, hn, hx⟩ := DataW.trod_struct Try.underlying117 h
  have hl3 : cs.length = 4 := hl.trans co_Prp
  have hn3 : xs.length = 2 := hn
  obtain ⟨c0, c1, c2, c3, rfl⟩ := len4 hl3
  obtain ⟨x0, x1, rfl⟩ := len2 hn3
  clear hl hn hl3 hn3 h
  obtain ⟨a0, k0, g0⟩ := opens_string Try.underlying9 enc w sp held n [c0] x0 (by have h := hx 0 _ rfl; simp [co_int, co_string, co_Value, co_Prp, co_slPrp] at h; exact h)
  obtain ⟨a1, k1, g1⟩ := opens_Value enc w sp held n [c1, c2, c3] x1 (by have h := hx 1 _ rfl; simp [co_int, co_string, co_Value, co_Prp, co_slPrp] at h; exact h)
  cases k0
  have e := kValue_open k1
  simp only [List.cons.injEq, and_true] at e
  obtain ⟨rfl, rfl, rfl⟩ := e
  exact ⟨⟨a0, a1⟩, kPrp_mk _ _, g0, g1⟩
theorem opens_Vert : Opens kVert 24 (fun v => (Lit.int .i64 v.f0).wf = true ∧ v.f1.size ≤ maxLen ∧ ∀ p ∈ v.f2, p.f0.size ≤ maxLen ∧ (Lit.int .i64 p.f1.f0).wf = true ∧ (Lit.int .i64 p.f1.f1).wf = true ∧ p.f1.f2.size ≤ maxLen) := by
  intro H enc w sp held fuel cs x h
  obtain ⟨xs, n, _, _, hl, hn, hx⟩ := DataW.trod_struct Try.underlying24 h
  have hl3 : cs.length = 3 := hl.trans co_Vert
  have hn3 : xs.length = 3 := hn
  obtain ⟨c0, c1, c2, rfl⟩ := len3 hl3
  obtain ⟨x0, x1, x2, rfl⟩ := len3 hn3
  clear hl hn hl3 hn3 h
  obtain ⟨a0, k0, g0⟩ := opens_int Try.underlying3 enc w sp held n [c0] x0 (by have h := hx 0 _ rfl; simp [co_int, co_string, co_Value, co_Prp, co_slPrp] at h; exact h)
  obtain ⟨a1, k1, g1⟩ := opens_string Try.underlying9 enc w sp held n [c1] x1 (by have h := hx 1 _ rfl; simp [co_int, co_string, co_Value, co_Prp, co_slPrp] at h; exact h)
  obtain ⟨a2, ⟨A2, d2, k2, l2, r2⟩, g2⟩ := opens_slice Try.underlying22 (d := kPrp) co_Prp opens_Prp enc w sp held n [c2] x2 (by have h := hx 2 _ rfl; simp [co_int, co_string, co_Value, co_Prp, co_slPrp] at h; exact h)
  cases k0; cases k1; cases k2
  exact ⟨⟨a0, a1, a2⟩, kVert_mk _ _ l2 r2, g0, g1, g2⟩
end Go.Proofs.Ytonbnlfijmapfaa
/- What came in, opened: arguments. No condition. -/
namespace Go.Proofs.Ytonbnlfijmapfaa
set_option linter.constructorNameAsVariable false
open Go.RowKit Go.ChangeShapes Go.WideShapes Go.Proofs.YtonbnlfijmapfaaW.PrintWords
set_option linter.unusedVariables false
set_option linter.unusedSimpArgs false

set_option maxRecDepth 100000
theorem okWide_ends {W : World} {r : Reach} {b : Nat} {v : Value} {n : Nat} {e t : TypeId} (ht : Try.prog.underlying t = some (.array n e)) (h : Value.okWide Try.prog W r b t v) : ∃ cs, v = .agg cs ∧ cs.size = Try.prog.cellsOf t := by
  simp only [Value.okWide, ht] at h
  obtain ⟨cs, h1, h2, _⟩ := h
  exact ⟨cs, h1, h2⟩
section
variable {H : Type} {enc : TypeId × Value → H} {W : World} {sp : Nat → Bool} {held : Bool} {r : Reach} {b : Nat} {v : Value} {d : DataW H} {p : List MemPlace}
theorem wf_range {n : Int} (h : (Lit.int .i64 n).wf = true) : -9223372036854775808 ≤ n ∧ n ≤ 9223372036854775807 := by
  simpa [Lit.wf, IntKind.min, IntKind.max, IntKind.signed, IntKind.bits] using h
theorem open_vert (hv : Value.okWide Try.prog W r b 24 v) (h : DataW.Trod enc Try.prog W 0 sp held 24 v d p) :
    ∃ (id : Int) (s : ByteArray) (A : Option Addr) (c : Nat) (l : List SPrp), v = .agg #[.int .i64 id, .string s, .slice A l.length c] ∧ PropsIn W A c l ∧ (-9223372036854775808 ≤ id ∧ id ≤ 9223372036854775807) ∧ s.size ≤ maxLen := by
  obtain ⟨cs, rfl, -⟩ := okWide_struct Try.underlying24 hv
  obtain ⟨fuel, hf⟩ := h
  obtain ⟨x, hK, hg⟩ := opens_Vert enc W sp held fuel _ _ hf
  obtain ⟨A, c, e, hle, hC⟩ := kVert_open hK
  have e2 : cs.toList = [.int .i64 x.f0, .string x.f1, .slice A x.f2.length c] := by simpa [Value.cells] using e
  refine ⟨x.f0, x.f1, A, c, x.f2, by rw [← Array.toList_inj.1 (show cs.toList = (#[Value.int .i64 x.f0, .string x.f1, .slice A x.f2.length c] : Array Value).toList from e2)], ⟨hC, fun q hq => wf_range (hg.2.2 q hq).2.2.1, hle⟩, wf_range hg.1, hg.2.1⟩
theorem open_ends (hv : Value.okWide Try.prog W r b 25 v) (h : DataW.Trod enc Try.prog W 0 sp held 25 v d p) : ∃ x y : Int, v = .agg #[.int .i64 x, .int .i64 y] := by
  obtain ⟨cs, rfl, -⟩ := okWide_ends Try.underlying25 hv
  obtain ⟨fuel, hf⟩ := h
  obtain ⟨xs, m, _, _, hl, hn, hx⟩ := DataW.trod_array Try.underlying25 hf
  have hl2 : (Value.agg cs).cells.toList.length = 2 := hl.trans (by kernel_rfl)
  obtain ⟨c0, c1, e⟩ := len2 hl2
  obtain ⟨x0, x1, rfl⟩ := len2 hn
  have g0 := hx 0 (by omega)
  have g1 := hx 1 (by omega)
  rw [e] at g0 g1
  simp [co_int] at g0 g1
  obtain ⟨n0, k0, -⟩ := DataW.trod_int Try.underlying3 g0
  obtain ⟨n1, k1, -⟩ := DataW.trod_int Try.underlying3 g1
  simp only [List.cons.injEq, and_true] at k0 k1
  subst k0; subst k1
  refine ⟨n0, n1, ?_⟩
  have e2 : cs.toList = (#[Value.int .i64 n0, .int .i64 n1] : Array Value).toList := by simpa [Value.cells] using e
  rw [Array.toList_inj.1 e2]
end
end Go.Proofs.Ytonbnlfijmapfaa
/- What came in, opened: an edge, a text. No condition. -/
namespace Go.Proofs.Ytonbnlfijmapfaa
set_option linter.constructorNameAsVariable false
open Go.RowKit Go.ChangeShapes Go.WideShapes Go.Proofs.YtonbnlfijmapfaaW.PrintWords
set_option linter.unusedVariables false
set_option linter.unusedSimpArgs false

set_option maxRecDepth 100000
theorem opens_Edg : Opens kEdg 35 (fun v => (Lit.int .i64 v.f0).wf = true ∧ v.f1.size ≤ maxLen ∧ (Lit.int .i64 v.f2).wf = true ∧ (Lit.int .i64 v.f3).wf = true ∧ ∀ p ∈ v.f4, p.f0.size ≤ maxLen ∧ (Lit.int .i64 p.f1.f0).wf = true ∧ (Lit.int .i64 p.f1.f1).wf = true ∧ p.f1.f2.size ≤ maxLen) := by
  intro H enc w sp held fuel cs x h
  obtain ⟨xs, n, _, _, hl, hn, hx⟩ := DataW.trod_struct Try.underlying35 h
  have hl3 : cs.length = 5 := hl.trans co_Edg
  have hn3 : xs.length = 5 := hn
  obtain ⟨c0, c1, c2, c3, c4, rfl⟩ := len5 hl3
  obtain ⟨x0, x1, x2, x3, x4, rfl⟩ := len5 hn3
  clear hl hn hl3 hn3 h
  obtain ⟨a0, k0, g0⟩ := opens_int Try.underlying3 enc w sp held n [c0] x0 (by have h := hx 0 _ rfl; simp [co_int, co_string, co_Value, co_Prp, co_slPrp] at h; exact h)
  obtain ⟨a1, k1, g1⟩ := opens_string Try.underlying9 enc w sp held n [c1] x1 (by have h := hx 1 _ rfl; simp [co_int, co_string, co_Value, co_Prp, co_slPrp] at h; exact h)
  obtain ⟨a2, k2, g2⟩ := opens_int Try.underlying3 enc w sp held n [c2] x2 (by have h := hx 2 _ rfl; simp [co_int, co_string, co_Value, co_Prp, co_slPrp] at h; exact h)
  obtain ⟨a3, k3, g3⟩ := opens_int Try.underlying3 enc w sp held n [c3] x3 (by have h := hx 3 _ rfl; simp [co_int, co_string, co_Value, co_Prp, co_slPrp] at h; exact h)
  obtain ⟨a4, ⟨A4, d4, k4, l4, r4⟩, g4⟩ := opens_slice Try.underlying22 (d := kPrp) co_Prp opens_Prp enc w sp held n [c4] x4 (by have h := hx 4 _ rfl; simp [co_int, co_string, co_Value, co_Prp, co_slPrp] at h; exact h)
  cases k0; cases k1; cases k2; cases k3; cases k4
  exact ⟨⟨a0, a1, a2, a3, a4⟩, kEdg_mk _ _ l4 r4, g0, g1, g2, g3, g4⟩
section
variable {H : Type} {enc : TypeId × Value → H} {W : World} {sp : Nat → Bool} {held : Bool} {r : Reach} {b : Nat} {v : Value} {d : DataW H} {p : List MemPlace}
theorem open_edge (hv : Value.okWide Try.prog W r b 35 v) (h : DataW.Trod enc Try.prog W 0 sp held 35 v d p) :
    ∃ (id : Int) (s : ByteArray) (x y : Int) (A : Option Addr) (c : Nat) (l : List SPrp), v = .agg #[.int .i64 id, .string s, .int .i64 x, .int .i64 y, .slice A l.length c] ∧ PropsIn W A c l ∧ (-9223372036854775808 ≤ id ∧ id ≤ 9223372036854775807) ∧ s.size ≤ maxLen := by
  obtain ⟨cs, rfl, -⟩ := okWide_struct Try.underlying35 hv
  obtain ⟨fuel, hf⟩ := h
  obtain ⟨x, hK, hg⟩ := opens_Edg enc W sp held fuel _ _ hf
  obtain ⟨A, c, e, hle, hC⟩ := kEdg_open hK
  have e2 : cs.toList = [.int .i64 x.f0, .string x.f1, .int .i64 x.f2, .int .i64 x.f3, .slice A x.f4.length c] := by simpa [Value.cells] using e
  refine ⟨x.f0, x.f1, x.f2, x.f3, A, c, x.f4, by rw [← Array.toList_inj.1 (show cs.toList = (#[Value.int .i64 x.f0, .string x.f1, .int .i64 x.f2, .int .i64 x.f3, .slice A x.f4.length c] : Array Value).toList from e2)], ⟨hC, fun q hq => wf_range (hg.2.2.2.2 q hq).2.2.1, hle⟩, wf_range hg.1, hg.2.1⟩
theorem open_str (hv : Value.okWide Try.prog W r b 9 v) (h : DataW.Trod enc Try.prog W 0 sp held 9 v d p) : ∃ s : ByteArray, v = .string s ∧ s.size ≤ maxLen := by
  obtain ⟨s, rfl⟩ := okWide_string Try.underlying9 hv
  obtain ⟨fuel, hf⟩ := h
  obtain ⟨s', h, hx, hs⟩ := DataW.trod_string Try.underlying9 hf
  simp [Value.cells] at h
  subst h
  exact ⟨s, rfl, hs⟩
end
end Go.Proofs.Ytonbnlfijmapfaa
