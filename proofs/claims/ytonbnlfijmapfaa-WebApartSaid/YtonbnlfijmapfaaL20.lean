/- cobweblaw21.WebApart, where all is small. -/
import Derived.Test.YtonbnlfijmapfaaL19
namespace Go.Proofs.Ytonbnlfijmapfaa
open Go.RowKit Go.Shelf Go.Proofs.YtonbnlfijmapfaaW.PrintWords
set_option linter.unusedVariables false
set_option linter.unusedSimpArgs false

theorem small_short {ps : List SPrp} (h : lawProps ps = true) : shortKeys ps := by
  simp only [lawProps, Bool.and_eq_true, List.all_eq_true, small, decide_eq_true_eq] at h
  intro p hp; have := (h.2 p hp).1; omega
theorem checkN_turn (s : ByteArray) (l : List SPrp) (x y : Int) : checkN s l [0, x, y] = checkN s l [0, y, x] := by
  unfold checkN; simp only [List.all_cons, List.all_nil, Bool.and_true]; rw [Bool.and_comm (idOk x)]
set_option maxRecDepth 100000 in
set_option maxHeartbeats 8000000 in
theorem law21_WebApart_good (i1 i2 x y : Int) (s1 s2 : ByteArray) (A1 A2 : Option Addr) (c1 c2 : Nat) (l1 l2 : List SPrp) (w : World) (h1 : PropsIn w A1 c1 l1) (h2 : PropsIn w A2 c2 l2) (hn1 : lawProps l1 = true) (hn2 : lawProps l2 = true) (hs1 : s1.size ≤ 200) (hs2 : s2.size ≤ 200)
    (hc : checkN s1 l1 [i1] = 0) (hc2 : checkN s2 l2 [i2] = 0) :
    Calls Try.prog 3 #[.agg #[.int .i64 i1, .string s1, .slice A1 l1.length c1], .agg #[.int .i64 i2, .string s2, .slice A2 l2.length c2], .agg #[.int .i64 x, .int .i64 y]] w fun e w' => e = .returned (.bool true) ∧ Below w.heap.size w w' := by
  have H1 := Lib.hid h1; clear h1
  have H2 := Lib.hid h2; clear h2
  have F1 := Lib.hid (small_fits hn1)
  have F2 := Lib.hid (small_fits hn2)
  have hsv : decide ([(⟨i1, s1, l1⟩ : SVert)] = [⟨i1, s2, l2⟩]) = decide (s1 = s2 ∧ l1 = l2) := by rw [Bool.eq_iff_iff]; simp
  have htx : ((vertexText i1 s1 l1).toList == (vertexText i2 s2 l2).toList) = decide (s1 = s2 ∧ l1 = l2) := by
    rw [toList_eq, vertexText, if_pos hc, vertexText, if_pos hc2, Bool.eq_iff_iff, decide_eq_true_iff, decide_eq_true_iff]
    refine ⟨fun h => body_inj (by omega) (by omega) (checkN_ok hc).2.2 (checkN_ok hc2).2.2 H1.out.rng H2.out.rng (small_short hn1) (small_short hn2) h, fun h => by rw [h.1, h.2]⟩
  have p3 : True := trivial
  have p1 : True := trivial
  have p2 : True := trivial
  have HN := Lib.hid (Bx.new w (.int .i64 i1) (.string s1) (.slice A1 l1.length c1) (.int .i64 i2) (.string s2) (.slice A2 l2.length c2) (.int .i64 x) (.int .i64 y) 24 24 25)
  have hn4 : ¬ (200 : Int) < (s1.size : Int) := by omega
  have hn5 : ¬ (200 : Int) < (s2.size : Int) := by omega
  by_cases hk : checkN s1 l1 [0, x, y] = 0
  · have hk2 : checkN s1 l1 [0, y, x] = 0 := by rw [← checkN_turn]; exact hk
    have het : ((edgeText 0 s1 x y l1).toList == (edgeText 0 s1 y x l1).toList) = (x == y) := by
      have hi := (checkN_ok hk).1
      simp only [List.all_cons, List.all_nil, Bool.and_true, Bool.and_eq_true] at hi
      rw [toList_eq, edgeText, if_pos hk, edgeText, if_pos hk2, Bool.eq_iff_iff, decide_eq_true_iff, edge_turn hi.2.1 hi.2.2]
      simp
    go_enter Try.func3, Try.ntmps3
    go_wp2_with (first
      | (go_at_call 15; refine (law21_awake_calls _).mono ?_; rintro e wa ⟨rfl, hba⟩; have HB := Lib.hid (HN.out.keep hba); clear hba HN; obtain ⟨x0, x1, x2, y0, y1, y2, z0, z1, -⟩ := HB.out)
      | (go_at_call 16; clear p1; refine (law21_props_calls A1 c1 l1 _ (Kd.C_below H1.out.row HB.out.low)).mono ?_; rw [hn1]; rintro e wp ⟨rfl, rfl⟩)
      | (go_at_call 16; refine (law21_props_calls A2 c2 l2 _ (Kd.C_below H2.out.row HB.out.low)).mono ?_; rw [hn2]; rintro e wp ⟨rfl, rfl⟩)
      | (go_at_call 17; clear p2; refine (web_VertexText_calls i1 s1 A1 c1 l1 _ (by omega) (Kd.C_below H1.out.row HB.out.low) F1.out H1.out.rng).mono ?_; rw [hc]; rintro e wb ⟨rfl, hbb⟩; clear x0 x1 x2 y0 y1 y2 z0 z1; have HC := Lib.hid (HB.out.keep hbb); clear hbb HB; obtain ⟨x0, x1, x2, y0, y1, y2, z0, z1, -⟩ := HC.out)
      | (go_at_call 17; refine (web_VertexText_calls i2 s2 A2 c2 l2 _ (by omega) (Kd.C_below H2.out.row HC.out.low) F2.out H2.out.rng).mono ?_; rw [hc2]; rintro e wc ⟨rfl, hbc⟩; clear x0 x1 x2 y0 y1 y2 z0 z1; have HD := Lib.hid (HC.out.keep hbc); clear hbc HC; obtain ⟨x0, x1, x2, y0, y1, y2, z0, z1, -⟩ := HD.out; have e0 := fun o => pw_cell_below (below_al wc o) x0; have e1 := fun o => pw_cell_below (below_al wc o) x1; have e2 := fun o => pw_cell_below (below_al wc o) x2)
      | (go_at_call 18; refine (ref16_SameV_calls _ _ 1 1 [⟨i1, s1, l1⟩] [⟨i1, s2, l2⟩] _ (Kd.C_alloc (C_boxg kVert (by decide) _ _ (by simp) ⟨i1, s1, l1⟩ #[.int .i64 i1, .string s1, .slice A1 l1.length c1] _ (kVert_mk _ _ H1.out.cap (Kd.C_below H1.out.row (keepB0 (below_al _ _) (keepB0 (below_al _ _) HD.out.low))))) _) (C_boxg kVert (by decide) _ _ (by simp) ⟨i1, s2, l2⟩ #[.int .i64 i1, .string s2, .slice A2 l2.length c2] _ (kVert_mk _ _ H2.out.cap (Kd.C_below H2.out.row (keepB0 (below_al _ _) (keepB0 (below_al _ _) (keepB0 (below_al _ _) HD.out.low))))))).mono ?_; rw [hsv]; rintro e wd ⟨rfl, hqd⟩; clear x0 x1 x2 y0 y1 y2 z0 z1 e0 e1 e2; have HE := Lib.hid (((((HD.out.keep (below_al _ _)).keep (below_al _ _)).keep (below_al _ _))).keep (quiet_below hqd _)); clear hqd HD; obtain ⟨x0, x1, x2, y0, y1, y2, z0, z1, -⟩ := HE.out)
      | (go_at_call 19; clear p3; refine (web_EdgeText_calls 0 s1 x y A1 c1 l1 _ (by omega) (Kd.C_below H1.out.row HE.out.low) F1.out H1.out.rng).mono ?_; rw [hk]; rintro e we ⟨rfl, hbe⟩; clear x0 x1 x2 y0 y1 y2 z0 z1; have HF := Lib.hid (HE.out.keep hbe); clear hbe HE; obtain ⟨x0, x1, x2, y0, y1, y2, z0, z1, -⟩ := HF.out)
      | (go_at_call 19; refine (web_EdgeText_calls 0 s1 y x A1 c1 l1 _ (by omega) (Kd.C_below H1.out.row HF.out.low) F1.out H1.out.rng).mono ?_; rw [hk2]; rintro e wf ⟨rfl, hbf⟩; clear x0 x1 x2 y0 y1 y2 z0 z1; have HG := Lib.hid (HF.out.keep hbf); clear hbf HF; obtain ⟨x0, x1, x2, y0, y1, y2, z0, z1, -⟩ := HG.out))
    refine wp_region_held_drew (S := (fun w' => Bx w (.int .i64 i1) (.string s1) (.slice A1 l1.length c1) (.int .i64 i2) (.string s2) (.slice A2 l2.length c2) (.int .i64 x) (.int .i64 y) w')) (by kernel_rfl) ?hS10 (fun hH0 => ?_)
    case hS10 => exact HG.out.keep (below_drew (Below.refl _ _))
    refine takeY (oi := { dst := some 119, op := Op.load 24 (Operand.tmp 3), type := 24, pos := "law.go:222", after := #[], guard := none }) 0 (some 119) (v := ?v0_10) rfl rfl (by kernel_rfl) (by kernel_rfl) (by kernel_rfl) (fun _ _ _ h => h) (by kernel_rfl) ?hy10 hH0 ?_
    case hy10 => (intro w_ hSw; (try dsimp only at hSw); (obtain ⟨x0, x1, x2, y0, y1, y2, z0, z1, -⟩ := hSw; go_simp; (first | done | with_reducible rfl)))
    simp only [Act.put, List.setIfInBounds_toArray, List.set_cons_zero, List.set_cons_succ]
    refine takeY (oi := { dst := some 121, op := Op.load 24 (Operand.tmp 4), type := 24, pos := "law.go:222", after := #[], guard := none }) 2 (some 121) (v := ?v2_10) rfl rfl (by kernel_rfl) (by kernel_rfl) (by kernel_rfl) (fun _ _ _ h => h) (by kernel_rfl) ?hy10 hH0 ?_
    case hy10 => (intro w_ hSw; (try dsimp only at hSw); (obtain ⟨x0, x1, x2, y0, y1, y2, z0, z1, -⟩ := hSw; go_simp; (first | done | with_reducible rfl)))
    simp only [Act.put, List.setIfInBounds_toArray, List.set_cons_zero, List.set_cons_succ]
    refine wpAnyH_ready (rs := [1]) (by kernel_rfl) (by simp) ?_
    refine AllReadyH.cons (o := { dst := some 120, op := Op.call { callee := Callee.value (Operand.func 20), args := #[Operand.tmp 119], argTypes := #[24] }, type := 36, pos := "law.go:222", after := #[{ on := 0, ground := Ground.data }], guard := none }) rfl (fun K1 hK1 => ?_) AllReadyH.nil
    go_simp; refine (web_Entries_calls i1 s1 A1 c1 l1 _ (by omega) (Kd.C_below H1.out.row hH0.low) F1.out H1.out.rng).mono ?_; rintro e wg ⟨v1, rfl, hR1, hbg⟩
    refine hK1.out _ _ ?hS10 (fun hH1 => ?_)
    case hS10 => ((try dsimp only); (exact hH0.keep hbg))
    clear hK1 K1
    (try clear hH0)
    (try simp only [Act.put, List.setIfInBounds_toArray, List.set_cons_zero, List.set_cons_succ])
    refine wpAnyH_ready (rs := [3]) (by kernel_rfl) (by simp) ?_
    refine AllReadyH.cons (o := { dst := some 122, op := Op.call { callee := Callee.value (Operand.func 20), args := #[Operand.tmp 121], argTypes := #[24] }, type := 36, pos := "law.go:222", after := #[{ on := 2, ground := Ground.data }, { on := 1, ground := Ground.chain }], guard := none }) rfl (fun K2 hK2 => ?_) AllReadyH.nil
    go_simp; refine (web_Entries_calls i2 s2 A2 c2 l2 _ (by omega) (Kd.C_below H2.out.row hH1.low) F2.out H2.out.rng).mono ?_; rintro e wh ⟨v2, rfl, hR2, hbh⟩
    refine hK2.out _ _ ?hS10 (fun hH2 => ?_)
    case hS10 => ((try dsimp only); (exact hH1.keep hbh))
    clear hK2 K2
    (try clear hH1)
    (try simp only [Act.put, List.setIfInBounds_toArray, List.set_cons_zero, List.set_cons_succ])
    refine takeY (oi := { dst := some 16, op := Op.assign (Operand.tmp 120), type := 36, pos := "law.go:222", after := #[{ on := 1, ground := Ground.data }, { on := 3, ground := Ground.chain }, { on := 0, ground := Ground.phase }, { on := 1, ground := Ground.phase }, { on := 2, ground := Ground.textOnly Departure.lateStores }, { on := 3, ground := Ground.textOnly Departure.lateStoresUnsure }], guard := none }) 4 (some 16) (v := ?v4_10) rfl rfl (by kernel_rfl) (by kernel_rfl) (by kernel_rfl) (fun _ _ _ h => h) (by kernel_rfl) ?hy10 hH2 ?_
    case hy10 => (intro w_ hSw; (try dsimp only at hSw); (obtain ⟨x0, x1, x2, y0, y1, y2, z0, z1, -⟩ := hSw; go_simp; (first | done | with_reducible rfl)))
    simp only [Act.put, List.setIfInBounds_toArray, List.set_cons_zero, List.set_cons_succ]
    refine takeY (oi := { dst := some 17, op := Op.assign (Operand.tmp 122), type := 36, pos := "law.go:222", after := #[{ on := 3, ground := Ground.data }, { on := 4, ground := Ground.chain }, { on := 0, ground := Ground.phase }, { on := 1, ground := Ground.phase }, { on := 2, ground := Ground.phase }, { on := 3, ground := Ground.phase }, { on := 4, ground := Ground.phase }], guard := none }) 5 (some 17) (v := ?v5_10) rfl rfl (by kernel_rfl) (by kernel_rfl) (by kernel_rfl) (fun _ _ _ h => h) (by kernel_rfl) ?hy10 hH2 ?_
    case hy10 => (intro w_ hSw; (try dsimp only at hSw); (obtain ⟨x0, x1, x2, y0, y1, y2, z0, z1, -⟩ := hSw; go_simp; (first | done | with_reducible rfl)))
    simp only [Act.put, List.setIfInBounds_toArray, List.set_cons_zero, List.set_cons_succ]
    refine wpAnyH_done (by kernel_rfl) ?_ _
    have hEnd := hH2
    clear hH2
    have HZ := Lib.hid hEnd
    obtain ⟨E1, d1, rfl, -, hC1⟩ := Kd.R_reads hR1
    obtain ⟨E2, d2, rfl, -, hC2⟩ := Kd.R_reads hR2
    have HC1 := Lib.hid (Kd.C_below hC1 hbh)
    have HC2 := Lib.hid hC2
    clear hR1 hR2 hC1 hC2 hbg hbh
    clear x0 x1 x2 y0 y1 y2 z0 z1
    have HN1 := Lib.hid (entries_length hc)
    have HAP := Lib.hid (fun (e : SEntry) (h1 : e ∈ entries i1 s1 l1) (h2 : e ∈ entries i2 s2 l2) => entries_apart h1 h2)
    have hm1 := Kd.C_max HC1.out
    have hm2 := Kd.C_max HC2.out
    generalize entries i1 s1 l1 = L1 at HC1 HN1 HAP hm1
    generalize entries i2 s2 l2 = L2 at HC2 HAP hm2
    go_wp2
    go_loopw [18] (fun v18 wr => ∃ i : Nat, i ≤ L1.length ∧ v18 = .int .i64 i ∧ Hid (Quiet wh wr)) (fun v18 _ => L1.length - (intOf v18).toNat)
    case atStart => exact ⟨0, by omega, rfl, Lib.hid (quiet_refl _)⟩
    case round =>
      obtain ⟨i, hi, rfl, HQ⟩ := hrel
      by_cases hlt : i < L1.length
      · have hlt2 : (i : Int) < (L1.length : Int) := by omega
        go_wp2
        go_loopw [19] (fun v19 wr2 => ∃ k : Nat, k ≤ L2.length ∧ v19 = .int .i64 k ∧ Hid (Quiet wh wr2)) (fun v19 _ => L2.length - (intOf v19).toNat)
        case atStart => exact ⟨0, by omega, rfl, HQ⟩
        case round =>
          obtain ⟨k, hkk, rfl, HQ2⟩ := hrel
          by_cases hlt3 : k < L2.length
          · have hlt4 : (k : Int) < (L2.length : Int) := by omega
            obtain ⟨ad, rfl, g0, g1⟩ := at_Entry (Kd.C_below HC1.out (quiet_below HQ2.out _)) (i : Int) (by omega) (by omega)
            obtain ⟨bd, rfl, f0, f1⟩ := at_Entry (Kd.C_below HC2.out (quiet_below HQ2.out _)) (k : Int) (by omega) (by omega)
            obtain ⟨x0, -, -, y0, -, -, -, -, -⟩ := HZ.out.keep (quiet_below HQ2.out _)
            simp only [Int.toNat_natCast, rd_Entry] at g0 g1 f0 f1
            have hm1' : L1.getD i zEntry ∈ L1 := by simp [List.getD_eq_getElem?_getD, List.getElem?_eq_getElem hlt]
            have hm2' : L2.getD k zEntry ∈ L2 := by simp [List.getD_eq_getElem?_getD, List.getElem?_eq_getElem hlt3]
            have HA := Lib.hid (fun (h : L1.getD i zEntry = L2.getD k zEntry) => HAP.out (L1.getD i zEntry) hm1' (by rw [h]; exact hm2'))
            clear hm1' hm2'
            cases hy : L1.getD i zEntry with
            | mk e0 e1 =>
            cases hx : L2.getD k zEntry with
            | mk d0 d1 =>
            rw [hy] at g0 g1 HA
            rw [hx] at f0 f1 HA
            clear hx hy
            simp only at g0 g1 f0 f1
            cases hd : decide ((⟨e0, e1⟩ : SEntry) = ⟨d0, d1⟩) with
            | true =>
              have q := eq_Entry hd
              have hid : (i1 != i2) = false := by simp [HA.out (of_decide_eq_true hd)]
              clear HA hd
              go_wp2_with fail
              go_big_quiet (fail)
              go_wp2
              go_roundw
              case rel => exact ⟨k + 1, by omega, by go_num, Lib.hid (quiet_step HQ2.out _)⟩
              case measure => simp [intOf]; omega
            | false =>
              have q := eq_Entry hd
              clear HA hd
              go_wp2_with fail
              go_big_quiet (fail)
              go_wp2
              go_roundw
              case rel => exact ⟨k + 1, by omega, by go_num, Lib.hid (quiet_step HQ2.out _)⟩
              case measure => simp [intOf]; omega
          · have hlt4 : ¬ (k : Int) < (L2.length : Int) := by omega
            go_wp2
            go_roundw
            case rel => exact ⟨i + 1, by omega, by go_num, HQ2⟩
            case measure => simp [intOf]; omega
      · have hlt2 : ¬ (i : Int) < (L1.length : Int) := by omega
        obtain ⟨-, -, x2, -, -, -, -, -, hlow⟩ := HZ.out.keep (quiet_below HQ.out _)
        have hn := HN1.out
        have HLow := Lib.hid hlow
        go_wp2
        go_ret
        exact ⟨ret_bool (by first | rfl | (simp; done) | (simp; omega)), HLow.out⟩
  · have hk2 : ¬ checkN s1 l1 [0, y, x] = 0 := by rw [← checkN_turn]; exact hk
    have hk' : (checkN s1 l1 [0, x, y] == 0) = false := by simp [hk]
    have hk2' : (checkN s1 l1 [0, y, x] == 0) = false := by simp [hk2]
    go_enter Try.func3, Try.ntmps3
    go_wp2_with (first
      | (go_at_call 15; refine (law21_awake_calls _).mono ?_; rintro e wa ⟨rfl, hba⟩; have HB := Lib.hid (HN.out.keep hba); clear hba HN; obtain ⟨x0, x1, x2, y0, y1, y2, z0, z1, -⟩ := HB.out)
      | (go_at_call 16; clear p1; refine (law21_props_calls A1 c1 l1 _ (Kd.C_below H1.out.row HB.out.low)).mono ?_; rw [hn1]; rintro e wp ⟨rfl, rfl⟩)
      | (go_at_call 16; refine (law21_props_calls A2 c2 l2 _ (Kd.C_below H2.out.row HB.out.low)).mono ?_; rw [hn2]; rintro e wp ⟨rfl, rfl⟩)
      | (go_at_call 17; clear p2; refine (web_VertexText_calls i1 s1 A1 c1 l1 _ (by omega) (Kd.C_below H1.out.row HB.out.low) F1.out H1.out.rng).mono ?_; rw [hc]; rintro e wb ⟨rfl, hbb⟩; clear x0 x1 x2 y0 y1 y2 z0 z1; have HC := Lib.hid (HB.out.keep hbb); clear hbb HB; obtain ⟨x0, x1, x2, y0, y1, y2, z0, z1, -⟩ := HC.out)
      | (go_at_call 17; refine (web_VertexText_calls i2 s2 A2 c2 l2 _ (by omega) (Kd.C_below H2.out.row HC.out.low) F2.out H2.out.rng).mono ?_; rw [hc2]; rintro e wc ⟨rfl, hbc⟩; clear x0 x1 x2 y0 y1 y2 z0 z1; have HD := Lib.hid (HC.out.keep hbc); clear hbc HC; obtain ⟨x0, x1, x2, y0, y1, y2, z0, z1, -⟩ := HD.out; have e0 := fun o => pw_cell_below (below_al wc o) x0; have e1 := fun o => pw_cell_below (below_al wc o) x1; have e2 := fun o => pw_cell_below (below_al wc o) x2)
      | (go_at_call 18; refine (ref16_SameV_calls _ _ 1 1 [⟨i1, s1, l1⟩] [⟨i1, s2, l2⟩] _ (Kd.C_alloc (C_boxg kVert (by decide) _ _ (by simp) ⟨i1, s1, l1⟩ #[.int .i64 i1, .string s1, .slice A1 l1.length c1] _ (kVert_mk _ _ H1.out.cap (Kd.C_below H1.out.row (keepB0 (below_al _ _) (keepB0 (below_al _ _) HD.out.low))))) _) (C_boxg kVert (by decide) _ _ (by simp) ⟨i1, s2, l2⟩ #[.int .i64 i1, .string s2, .slice A2 l2.length c2] _ (kVert_mk _ _ H2.out.cap (Kd.C_below H2.out.row (keepB0 (below_al _ _) (keepB0 (below_al _ _) (keepB0 (below_al _ _) HD.out.low))))))).mono ?_; rw [hsv]; rintro e wd ⟨rfl, hqd⟩; clear x0 x1 x2 y0 y1 y2 z0 z1 e0 e1 e2; have HE := Lib.hid (((((HD.out.keep (below_al _ _)).keep (below_al _ _)).keep (below_al _ _))).keep (quiet_below hqd _)); clear hqd HD; obtain ⟨x0, x1, x2, y0, y1, y2, z0, z1, -⟩ := HE.out)
      | (go_at_call 19; clear p3; refine (web_EdgeText_calls 0 s1 x y A1 c1 l1 _ (by omega) (Kd.C_below H1.out.row HE.out.low) F1.out H1.out.rng).mono ?_; rintro e we ⟨rfl, hbe⟩; clear x0 x1 x2 y0 y1 y2 z0 z1; have HF := Lib.hid (HE.out.keep hbe); clear hbe HE; obtain ⟨x0, x1, x2, y0, y1, y2, z0, z1, -⟩ := HF.out)
      | (go_at_call 19; refine (web_EdgeText_calls 0 s1 y x A1 c1 l1 _ (by omega) (Kd.C_below H1.out.row HF.out.low) F1.out H1.out.rng).mono ?_; rintro e wf ⟨rfl, hbf⟩; clear x0 x1 x2 y0 y1 y2 z0 z1; have HG := Lib.hid (HF.out.keep hbf); clear hbf HF; obtain ⟨x0, x1, x2, y0, y1, y2, z0, z1, -⟩ := HG.out))
    refine wp_region_held_drew (S := (fun w' => Bx w (.int .i64 i1) (.string s1) (.slice A1 l1.length c1) (.int .i64 i2) (.string s2) (.slice A2 l2.length c2) (.int .i64 x) (.int .i64 y) w')) (by kernel_rfl) ?hS11 (fun hH0 => ?_)
    case hS11 => exact HG.out.keep (below_drew (Below.refl _ _))
    refine takeY (oi := { dst := some 119, op := Op.load 24 (Operand.tmp 3), type := 24, pos := "law.go:222", after := #[], guard := none }) 0 (some 119) (v := ?v0_11) rfl rfl (by kernel_rfl) (by kernel_rfl) (by kernel_rfl) (fun _ _ _ h => h) (by kernel_rfl) ?hy11 hH0 ?_
    case hy11 => (intro w_ hSw; (try dsimp only at hSw); (obtain ⟨x0, x1, x2, y0, y1, y2, z0, z1, -⟩ := hSw; go_simp; (first | done | with_reducible rfl)))
    simp only [Act.put, List.setIfInBounds_toArray, List.set_cons_zero, List.set_cons_succ]
    refine takeY (oi := { dst := some 121, op := Op.load 24 (Operand.tmp 4), type := 24, pos := "law.go:222", after := #[], guard := none }) 2 (some 121) (v := ?v2_11) rfl rfl (by kernel_rfl) (by kernel_rfl) (by kernel_rfl) (fun _ _ _ h => h) (by kernel_rfl) ?hy11 hH0 ?_
    case hy11 => (intro w_ hSw; (try dsimp only at hSw); (obtain ⟨x0, x1, x2, y0, y1, y2, z0, z1, -⟩ := hSw; go_simp; (first | done | with_reducible rfl)))
    simp only [Act.put, List.setIfInBounds_toArray, List.set_cons_zero, List.set_cons_succ]
    refine wpAnyH_ready (rs := [1]) (by kernel_rfl) (by simp) ?_
    refine AllReadyH.cons (o := { dst := some 120, op := Op.call { callee := Callee.value (Operand.func 20), args := #[Operand.tmp 119], argTypes := #[24] }, type := 36, pos := "law.go:222", after := #[{ on := 0, ground := Ground.data }], guard := none }) rfl (fun K1 hK1 => ?_) AllReadyH.nil
    go_simp; refine (web_Entries_calls i1 s1 A1 c1 l1 _ (by omega) (Kd.C_below H1.out.row hH0.low) F1.out H1.out.rng).mono ?_; rintro e wg ⟨v1, rfl, hR1, hbg⟩
    refine hK1.out _ _ ?hS11 (fun hH1 => ?_)
    case hS11 => ((try dsimp only); (exact hH0.keep hbg))
    clear hK1 K1
    (try clear hH0)
    (try simp only [Act.put, List.setIfInBounds_toArray, List.set_cons_zero, List.set_cons_succ])
    refine wpAnyH_ready (rs := [3]) (by kernel_rfl) (by simp) ?_
    refine AllReadyH.cons (o := { dst := some 122, op := Op.call { callee := Callee.value (Operand.func 20), args := #[Operand.tmp 121], argTypes := #[24] }, type := 36, pos := "law.go:222", after := #[{ on := 2, ground := Ground.data }, { on := 1, ground := Ground.chain }], guard := none }) rfl (fun K2 hK2 => ?_) AllReadyH.nil
    go_simp; refine (web_Entries_calls i2 s2 A2 c2 l2 _ (by omega) (Kd.C_below H2.out.row hH1.low) F2.out H2.out.rng).mono ?_; rintro e wh ⟨v2, rfl, hR2, hbh⟩
    refine hK2.out _ _ ?hS11 (fun hH2 => ?_)
    case hS11 => ((try dsimp only); (exact hH1.keep hbh))
    clear hK2 K2
    (try clear hH1)
    (try simp only [Act.put, List.setIfInBounds_toArray, List.set_cons_zero, List.set_cons_succ])
    refine takeY (oi := { dst := some 16, op := Op.assign (Operand.tmp 120), type := 36, pos := "law.go:222", after := #[{ on := 1, ground := Ground.data }, { on := 3, ground := Ground.chain }, { on := 0, ground := Ground.phase }, { on := 1, ground := Ground.phase }, { on := 2, ground := Ground.textOnly Departure.lateStores }, { on := 3, ground := Ground.textOnly Departure.lateStoresUnsure }], guard := none }) 4 (some 16) (v := ?v4_11) rfl rfl (by kernel_rfl) (by kernel_rfl) (by kernel_rfl) (fun _ _ _ h => h) (by kernel_rfl) ?hy11 hH2 ?_
    case hy11 => (intro w_ hSw; (try dsimp only at hSw); (obtain ⟨x0, x1, x2, y0, y1, y2, z0, z1, -⟩ := hSw; go_simp; (first | done | with_reducible rfl)))
    simp only [Act.put, List.setIfInBounds_toArray, List.set_cons_zero, List.set_cons_succ]
    refine takeY (oi := { dst := some 17, op := Op.assign (Operand.tmp 122), type := 36, pos := "law.go:222", after := #[{ on := 3, ground := Ground.data }, { on := 4, ground := Ground.chain }, { on := 0, ground := Ground.phase }, { on := 1, ground := Ground.phase }, { on := 2, ground := Ground.phase }, { on := 3, ground := Ground.phase }, { on := 4, ground := Ground.phase }], guard := none }) 5 (some 17) (v := ?v5_11) rfl rfl (by kernel_rfl) (by kernel_rfl) (by kernel_rfl) (fun _ _ _ h => h) (by kernel_rfl) ?hy11 hH2 ?_
    case hy11 => (intro w_ hSw; (try dsimp only at hSw); (obtain ⟨x0, x1, x2, y0, y1, y2, z0, z1, -⟩ := hSw; go_simp; (first | done | with_reducible rfl)))
    simp only [Act.put, List.setIfInBounds_toArray, List.set_cons_zero, List.set_cons_succ]
    refine wpAnyH_done (by kernel_rfl) ?_ _
    have hEnd := hH2
    clear hH2
    have HZ := Lib.hid hEnd
    obtain ⟨E1, d1, rfl, -, hC1⟩ := Kd.R_reads hR1
    obtain ⟨E2, d2, rfl, -, hC2⟩ := Kd.R_reads hR2
    have HC1 := Lib.hid (Kd.C_below hC1 hbh)
    have HC2 := Lib.hid hC2
    clear hR1 hR2 hC1 hC2 hbg hbh
    clear x0 x1 x2 y0 y1 y2 z0 z1
    have HN1 := Lib.hid (entries_length hc)
    have HAP := Lib.hid (fun (e : SEntry) (h1 : e ∈ entries i1 s1 l1) (h2 : e ∈ entries i2 s2 l2) => entries_apart h1 h2)
    have hm1 := Kd.C_max HC1.out
    have hm2 := Kd.C_max HC2.out
    generalize entries i1 s1 l1 = L1 at HC1 HN1 HAP hm1
    generalize entries i2 s2 l2 = L2 at HC2 HAP hm2
    go_wp2
    go_loopw [18] (fun v18 wr => ∃ i : Nat, i ≤ L1.length ∧ v18 = .int .i64 i ∧ Hid (Quiet wh wr)) (fun v18 _ => L1.length - (intOf v18).toNat)
    case atStart => exact ⟨0, by omega, rfl, Lib.hid (quiet_refl _)⟩
    case round =>
      obtain ⟨i, hi, rfl, HQ⟩ := hrel
      by_cases hlt : i < L1.length
      · have hlt2 : (i : Int) < (L1.length : Int) := by omega
        go_wp2
        go_loopw [19] (fun v19 wr2 => ∃ k : Nat, k ≤ L2.length ∧ v19 = .int .i64 k ∧ Hid (Quiet wh wr2)) (fun v19 _ => L2.length - (intOf v19).toNat)
        case atStart => exact ⟨0, by omega, rfl, HQ⟩
        case round =>
          obtain ⟨k, hkk, rfl, HQ2⟩ := hrel
          by_cases hlt3 : k < L2.length
          · have hlt4 : (k : Int) < (L2.length : Int) := by omega
            obtain ⟨ad, rfl, g0, g1⟩ := at_Entry (Kd.C_below HC1.out (quiet_below HQ2.out _)) (i : Int) (by omega) (by omega)
            obtain ⟨bd, rfl, f0, f1⟩ := at_Entry (Kd.C_below HC2.out (quiet_below HQ2.out _)) (k : Int) (by omega) (by omega)
            obtain ⟨x0, -, -, y0, -, -, -, -, -⟩ := HZ.out.keep (quiet_below HQ2.out _)
            simp only [Int.toNat_natCast, rd_Entry] at g0 g1 f0 f1
            have hm1' : L1.getD i zEntry ∈ L1 := by simp [List.getD_eq_getElem?_getD, List.getElem?_eq_getElem hlt]
            have hm2' : L2.getD k zEntry ∈ L2 := by simp [List.getD_eq_getElem?_getD, List.getElem?_eq_getElem hlt3]
            have HA := Lib.hid (fun (h : L1.getD i zEntry = L2.getD k zEntry) => HAP.out (L1.getD i zEntry) hm1' (by rw [h]; exact hm2'))
            clear hm1' hm2'
            cases hy : L1.getD i zEntry with
            | mk e0 e1 =>
            cases hx : L2.getD k zEntry with
            | mk d0 d1 =>
            rw [hy] at g0 g1 HA
            rw [hx] at f0 f1 HA
            clear hx hy
            simp only at g0 g1 f0 f1
            cases hd : decide ((⟨e0, e1⟩ : SEntry) = ⟨d0, d1⟩) with
            | true =>
              have q := eq_Entry hd
              have hid : (i1 != i2) = false := by simp [HA.out (of_decide_eq_true hd)]
              clear HA hd
              go_wp2_with fail
              go_big_quiet (fail)
              go_wp2
              go_roundw
              case rel => exact ⟨k + 1, by omega, by go_num, Lib.hid (quiet_step HQ2.out _)⟩
              case measure => simp [intOf]; omega
            | false =>
              have q := eq_Entry hd
              clear HA hd
              go_wp2_with fail
              go_big_quiet (fail)
              go_wp2
              go_roundw
              case rel => exact ⟨k + 1, by omega, by go_num, Lib.hid (quiet_step HQ2.out _)⟩
              case measure => simp [intOf]; omega
          · have hlt4 : ¬ (k : Int) < (L2.length : Int) := by omega
            go_wp2
            go_roundw
            case rel => exact ⟨i + 1, by omega, by go_num, HQ2⟩
            case measure => simp [intOf]; omega
      · have hlt2 : ¬ (i : Int) < (L1.length : Int) := by omega
        obtain ⟨-, -, x2, -, -, -, -, -, hlow⟩ := HZ.out.keep (quiet_below HQ.out _)
        have hn := HN1.out
        have HLow := Lib.hid hlow
        go_wp2
        go_ret
        exact ⟨ret_bool (by first | rfl | (simp; done) | (simp; omega)), HLow.out⟩
end Go.Proofs.Ytonbnlfijmapfaa
