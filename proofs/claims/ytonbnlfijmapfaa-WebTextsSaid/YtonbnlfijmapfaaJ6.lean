/- Texts of this proof, joined: L36, L37, L38, L39, P7, L18, L40, L41, L42, L43. No condition. -/
import Derived.Test.YtonbnlfijmapfaaJ3
import Derived.Test.YtonbnlfijmapfaaJ2
import Derived.Test.YtonbnlfijmapfaaJ5
/- cobwebref03.Bytes, cobwebref21.Body. -/
namespace Go.Proofs.Ytonbnlfijmapfaa
open Go.RowKit Go.Shelf Go.Proofs.YtonbnlfijmapfaaW.PrintWords
set_option linter.unusedVariables false
set_option linter.unusedSimpArgs false

theorem at_Prp_all {w : World} {ad : Addr} {n : Nat} {xs : List SPrp} (h : kPrp.C w (some ad) n xs) {k : Nat} (hk : k < n) {y0 y3 : ByteArray} {y1 y2 : Int} (hy : xs.getD k zPrp = ⟨y0, ⟨y1, y2, y3⟩⟩) (W : World) (hW : Below w.heap.size w W) :
    W.cell? (ad.add (k * 4)) = some (.string y0) ∧ W.cell? ⟨(ad.add (k * 4)).block, (ad.add (k * 4)).off + 1, none⟩ = some (.int .i64 y1) ∧ W.cell? ⟨(ad.add (k * 4)).block, (ad.add (k * 4)).off + 2, none⟩ = some (.int .i64 y2) ∧ W.cell? ⟨(ad.add (k * 4)).block, (ad.add (k * 4)).off + 3, none⟩ = some (.string y3) := by
  obtain ⟨ad2, e, g0, g1, g2, g3⟩ := at_Prp (Kd.C_below h hW) (k : Int) (by omega) (by omega)
  cases e
  simp only [Int.toNat_natCast, rd_Prp, hy] at g0 g1 g2 g3
  exact ⟨g0, g1, g2, g3⟩
set_option maxHeartbeats 4000000 in
set_option maxRecDepth 100000 in
theorem ref03_Bytes_calls (A : Option Addr) (c : Nat) (l : List SPrp) (w : World) (h : kPrp.C w A l.length l) (hf : fits l) (hg : ranged l) (hr : propsRight l = true) :
    Calls Try.prog 77 #[.slice A l.length c] w (RetRow w (propsBytes l)) := by
  have hm := Kd.C_max h
  obtain ⟨hok, h16⟩ := propsRight_ok hr
  have HX := Lib.hid h; clear h
  have HF := Lib.hid hf; clear hf
  have HG := Lib.hid hg; clear hg
  have HO := Lib.hid hok; clear hok
  go_enter Try.func77, Try.ntmps77
  go_wp2
  go_loopw [3, 4] (fun v3 v4 wr => ∃ (k : Nat), k ≤ l.length ∧ v4 = .int .i64 k ∧ Hid (Below w.heap.size w wr) ∧ Hid ((Kd.int .u8).R 5 wr w.heap.size (fun _ => True) v3 ((l.length : Int) :: (l.take k).flatMap propBytes))) (fun _ v4 _ => l.length - (intOf v4).toNat)
  case atStart => exact ⟨0, by omega, rfl, Lib.hid (below_al _ _), Lib.hid (R_box1 _ .u8 (Nat.le_refl _))⟩
  case round =>
    obtain ⟨k, hk, rfl, HB, HR⟩ := hrel
    by_cases hlt : k < l.length
    · have hlt2 : (k : Int) < (l.length : Int) := by omega
      have hmem : l.getD k zPrp ∈ l := by simp [List.getD_eq_getElem?_getD, List.getElem?_eq_getElem hlt]
      have hs := HF.out _ hmem
      have hrg := HG.out _ hmem
      have hvo := (HO.out _ hmem).2
      have HT := Lib.hid (flat_take l k hlt)
      have hL := flat_length (l.take k) (fun p hp => (HO.out p (List.mem_of_mem_take hp)).2) (fun p hp => HF.out p (List.mem_of_mem_take hp))
      have hL2 := List.length_take_le k l
      obtain ⟨ad, rfl, -⟩ := at_Prp HX.out (k : Int) (by omega) (by omega)
      obtain ⟨⟨y0, ⟨y1, y2, y3⟩⟩, hy⟩ : ∃ q, l.getD k zPrp = q := ⟨_, rfl⟩
      have HC := Lib.hid (at_Prp_all HX.out hlt hy)
      rw [hy] at HT hs hrg hvo
      clear hy hmem
      simp only at hs hrg hvo
      have hvl := valBytes_length (k := y1) (n := y2) (s := y3) hvo
      have hLL : ((l.take k).flatMap propBytes).length ≤ 2000000 := by omega
      clear hL hL2
      generalize (l.take k).flatMap propBytes = X at HR HT hLL
      have p1 : True := trivial
      have p2 : True := trivial
      obtain ⟨g0, g1, g2, g3⟩ := HC.out wr HB.out
      go_wp2_with (first
        | (at_builtin; clear p1; (refine app_one HR.out info_u8 Try.underlying46 (M_int _) (fun _ _ => trivial) HB.out.size (by simp only [List.length_cons]; omega) rfl (by decide) (by decide) rfl rfl rfl rfl ?_); intro v2 w2 hR2 hb2 hg2 hat2; have HR2 := Lib.hid hR2; have HB2 := Lib.hid (HB.out.trans hb2); clear hR2 hb2 hg2 hat2 g0 g1 g2 g3; obtain ⟨g0, g1, g2, g3⟩ := HC.out w2 HB2.out)
        | (at_builtin; clear p2; obtain ⟨v3, w3, hr3, hR3, hb3, -⟩ := run_app_str (ty := 46) HR2.out y0 Try.underlying46 Try.underlying9 info_u8 HB2.out.size (by simp only [List.length_cons, List.length_append, List.length_nil]; omega); refine list_app rfl rfl rfl rfl hr3 ?_; have HR3 := Lib.hid hR3; have HB3 := Lib.hid (HB2.out.trans hb3); clear hR3 hb3 hr3 g0 g1 g2 g3; obtain ⟨g0, g1, g2, g3⟩ := HC.out w3 HB3.out)
        | (go_at_call 23; refine (ref02_Bytes_calls y1 y2 y3 _ hrg.1 hrg.2 hvo).mono ?_; rintro e w4 ⟨v4, rfl, hR4, hb4⟩; obtain ⟨A4, c4, rfl, -, hC4⟩ := Kd.R_reads hR4; have HC4 := Lib.hid hC4; have HR5 := Lib.hid (Kd.R_below HR3.out hb4); have HB4 := Lib.hid (keepB0 hb4 HB3.out); clear hR4 hC4 hb4)
        | (at_builtin; obtain ⟨v6, w6, hr6, hR6, hb6, -, -⟩ := run_app_row (ty := 46) HR5.out HC4.out Try.underlying46 info_u8 rfl (by decide) (fun _ _ => trivial) HB4.out.size (by simp only [List.length_cons, List.length_append, bytesOf_length, List.length_nil]; omega); refine list_app rfl rfl rfl rfl hr6 ?_; have HR6 := Lib.hid hR6; have HB6 := Lib.hid (HB4.out.trans hb6); clear hR6 hb6 hr6))
      go_roundw
      case rel =>
        refine ⟨k + 1, by omega, by go_num, HB6, Lib.hid ?_⟩
        have e := HR6.out
        rw [HT.out, propBytes]
        refine cast (congrArg (fun z => (Kd.int .u8).R 5 w6 w.heap.size (fun _ => True) v6 z) ?_) e
        simp [List.append_assoc, IntKind.wrap, IntKind.bits, IntKind.signed]
      case measure => simp [intOf]; omega
    · have hlt2 : ¬ (k : Int) < (l.length : Int) := by omega
      go_wp2
      go_ret
      refine ⟨_, rfl, ?_, HB.out⟩
      have := HR.out
      rwa [List.take_of_length_le (by omega)] at this

theorem blk_C1 {W : World} {g : Nat} {x : Int} {k : IntKind} {T : Nat} (h : Blk W g #[.int k x] T) : (Kd.int k).C W (some ⟨g, 0, none⟩) 1 [x] := by
  refine Kd.C_of_reads (d := (0 : Int)) ⟨rfl, by simp, fun _ => ⟨_, rfl, fun j hj => ?_⟩⟩
  obtain rfl : j = 0 := by simp at hj; exact hj
  exact blk_cell h 0
theorem str_blk1 {W : World} {g : Nat} {x : Int} {T : Nat} (h : Blk W g #[.int .u8 x] T) : (convert 46 9 (.slice (some ⟨g, 0, none⟩) 1 1)).run Try.prog W = .ok (.string (strOfNums [x])) W :=
  Kd.C_string Try.underlying46 Try.underlying5 Try.underlying9 (blk_C1 h)
set_option maxHeartbeats 4000000 in
set_option maxRecDepth 100000 in
theorem ref21_Body_calls (s : ByteArray) (A : Option Addr) (c : Nat) (l : List SPrp) (w : World) (hs : s.size ≤ 100000) (h : kPrp.C w A l.length l) (hf : fits l) (hg : ranged l) (hr : propsRight l = true) :
    Calls Try.prog 38 #[.string s, .slice A l.length c] w fun e w' => e = .returned (.string (bodyText s l)) ∧ Below w.heap.size w w' := by
  have hps := propsBytes_size hr hf
  have hps2 := strOfNums_size (propsBytes l)
  have hps3 := strOfNums_size [(s.size : Int) % 256]
  have hps4 : ByteArray.size (strOfNums [(s.size : Int) % 256]) ≤ 1 := by rw [hps3]; simp
  have hps5 : ByteArray.size (strOfNums (propsBytes l)) ≤ 2000000 := by rw [hps2]; exact hps
  clear hps2 hps3
  have HX := Lib.hid h; clear h
  have HF := Lib.hid hf; clear hf
  have HG := Lib.hid hg; clear hg
  go_enter Try.func38, Try.ntmps38
  go_wp2_with fail
  refine wp_region_held_drew (S := (fun w' => Below w.heap.size w w')) (by kernel_rfl) ?hS101 (fun hH0 => ?_)
  case hS101 => exact below_drew (Below.refl _ _)
  refine takeY (oi := { dst := some 5, op := Op.move (Operand.tmp 0), type := 9, pos := "ref.go:48", after := #[], guard := none }) 0 (some 5) (v := ?v0_102) rfl rfl (by kernel_rfl) (by kernel_rfl) (by kernel_rfl) (fun _ _ _ h => h) (by kernel_rfl) ?hy102 hH0 ?_
  case hy102 => (intro w_ hSw; (try dsimp only at hSw); go_simp; (first | done | with_reducible rfl | rw [if_neg (by omega)]))
  simp only [Act.put, List.setIfInBounds_toArray, List.set_cons_zero, List.set_cons_succ]
  refine takeY (oi := { dst := some 6, op := Op.call { callee := Callee.builtin Builtin.len, args := #[Operand.tmp 5], argTypes := #[9] }, type := 3, pos := "ref.go:48", after := #[{ on := 0, ground := Ground.data }], guard := none }) 1 (some 6) (v := ?v1_103) rfl rfl (by kernel_rfl) (by kernel_rfl) (by kernel_rfl) (fun _ _ _ h => h) (by kernel_rfl) ?hy103 hH0 ?_
  case hy103 => (intro w_ hSw; (try dsimp only at hSw); go_simp; (first | done | with_reducible rfl | rw [if_neg (by omega)]))
  simp only [Act.put, List.setIfInBounds_toArray, List.set_cons_zero, List.set_cons_succ]
  refine takeY (oi := { dst := some 7, op := Op.convert 3 5 (Operand.tmp 6), type := 5, pos := "ref.go:48", after := #[{ on := 1, ground := Ground.data }], guard := none }) 2 (some 7) (v := ?v2_104) rfl rfl (by kernel_rfl) (by kernel_rfl) (by kernel_rfl) (fun _ _ _ h => h) (by kernel_rfl) ?hy104 hH0 ?_
  case hy104 => (intro w_ hSw; (try dsimp only at hSw); go_simp; (first | done | with_reducible rfl | rw [if_neg (by omega)]))
  simp only [Act.put, List.setIfInBounds_toArray, List.set_cons_zero, List.set_cons_succ]
  refine takeY (oi := { dst := some 10, op := Op.move (Operand.tmp 0), type := 9, pos := "ref.go:48", after := #[], guard := none }) 5 (some 10) (v := ?v5_105) rfl rfl (by kernel_rfl) (by kernel_rfl) (by kernel_rfl) (fun _ _ _ h => h) (by kernel_rfl) ?hy105 hH0 ?_
  case hy105 => (intro w_ hSw; (try dsimp only at hSw); go_simp; (first | done | with_reducible rfl | rw [if_neg (by omega)]))
  simp only [Act.put, List.setIfInBounds_toArray, List.set_cons_zero, List.set_cons_succ]
  refine takeY (oi := { dst := some 12, op := Op.move (Operand.tmp 1), type := 22, pos := "ref.go:48", after := #[], guard := none }) 7 (some 12) (v := ?v7_106) rfl rfl (by kernel_rfl) (by kernel_rfl) (by kernel_rfl) (fun _ _ _ h => h) (by kernel_rfl) ?hy106 hH0 ?_
  case hy106 => (intro w_ hSw; (try dsimp only at hSw); go_simp; (first | done | with_reducible rfl | rw [if_neg (by omega)]))
  simp only [Act.put, List.setIfInBounds_toArray, List.set_cons_zero, List.set_cons_succ]
  refine wpAnyH_ready (rs := [3, 8]) (by kernel_rfl) (by simp) ?_
  refine AllReadyH.cons (o := { dst := some 8, op := Op.buildSlice 46 1 #[(0, Operand.tmp 7)], type := 46, pos := "ref.go:48", after := #[{ on := 2, ground := Ground.data }], guard := none }) rfl (fun K1 hK1 => ?_) (AllReadyH.cons (o := { dst := some 13, op := Op.call { callee := Callee.value (Operand.func 77), args := #[Operand.tmp 12], argTypes := #[22] }, type := 46, pos := "ref.go:48", after := #[{ on := 7, ground := Ground.data }], guard := none }) rfl (fun K1 hK1 => ?_) AllReadyH.nil)
  · skip
    go_simp
    refine hK1.out _ _ ?hS107 (fun hH1 => ?_)
    case hS107 => ((try dsimp only); (exact keepB0 (below_al _ _) hH0))
    clear hK1 K1
    (try clear hH0)
    (try simp only [Act.put, List.setIfInBounds_toArray, List.set_cons_zero, List.set_cons_succ])
    refine wpAnyH_stronger (S2 := (fun w' => Below w.heap.size w w' ∧ Blk w' w.heap.size #[.int .u8 ((s.size : Int) % 256)] 5)) (fun w_ h_ => h_.1) _ _ _ _ ?_
    replace hH1 := (And.intro hH1 (blk_new w.drew #[.int .u8 ((s.size : Int) % 256)] 5))
    refine takeY (oi := { dst := some 9, op := Op.convert 46 9 (Operand.tmp 8), type := 9, pos := "ref.go:48", after := #[{ on := 3, ground := Ground.data }], guard := none }) 4 (some 9) (v := ?v4_108) rfl rfl (by kernel_rfl) (by kernel_rfl) (by kernel_rfl) (fun _ _ _ h => h) (by kernel_rfl) ?hy108 hH1 ?_
    case hy108 => (intro w_ hSw; (try dsimp only at hSw); (have hc := str_blk1 hSw.2; go_simp; (first | done | with_reducible rfl)))
    simp only [Act.put, List.setIfInBounds_toArray, List.set_cons_zero, List.set_cons_succ]
    refine takeY (oi := { dst := some 11, op := Op.binOp BinOp.add 9 (Operand.tmp 9) (Operand.tmp 10) 9, type := 9, pos := "ref.go:48", after := #[{ on := 4, ground := Ground.data }, { on := 5, ground := Ground.data }], guard := none }) 6 (some 11) (v := ?v6_109) rfl rfl (by kernel_rfl) (by kernel_rfl) (by kernel_rfl) (fun _ _ _ h => h) (by kernel_rfl) ?hy109 hH1 ?_
    case hy109 => (intro w_ hSw; (try dsimp only at hSw); go_simp; (first | done | with_reducible rfl | rw [if_neg (by omega)]))
    simp only [Act.put, List.setIfInBounds_toArray, List.set_cons_zero, List.set_cons_succ]
    refine wpAnyH_ready (rs := [8]) (by kernel_rfl) (by simp) ?_
    refine AllReadyH.cons (o := { dst := some 13, op := Op.call { callee := Callee.value (Operand.func 77), args := #[Operand.tmp 12], argTypes := #[22] }, type := 46, pos := "ref.go:48", after := #[{ on := 7, ground := Ground.data }], guard := none }) rfl (fun K2 hK2 => ?_) AllReadyH.nil
    go_simp; refine (ref03_Bytes_calls A c l _ (Kd.C_below HX.out hH1.1) HF.out HG.out hr).mono ?_; rintro e w8 ⟨v8, rfl, hR8, hb8⟩; obtain ⟨A8, c8, rfl, -, hC8⟩ := Kd.R_reads hR8
    refine hK2.out _ _ ?hS110 (fun hH2 => ?_)
    case hS110 => ((try dsimp only); (exact ⟨keepB0 hb8 hH1.1, blk_below hb8 hH1.2⟩))
    clear hK2 K2
    (try clear hH1)
    (try simp only [Act.put, List.setIfInBounds_toArray, List.set_cons_zero, List.set_cons_succ])
    refine wpAnyH_stronger (S2 := (fun w' => (Below w.heap.size w w' ∧ Blk w' w.heap.size #[.int .u8 ((s.size : Int) % 256)] 5) ∧ (Kd.int .u8).C w' A8 (propsBytes l).length (propsBytes l))) (fun w_ h_ => h_.1) _ _ _ _ ?_
    replace hH2 := (And.intro hH2 hC8)
    refine takeY (oi := { dst := some 14, op := Op.convert 46 9 (Operand.tmp 13), type := 9, pos := "ref.go:48", after := #[{ on := 8, ground := Ground.data }], guard := none }) 9 (some 14) (v := ?v9_111) rfl rfl (by kernel_rfl) (by kernel_rfl) (by kernel_rfl) (fun _ _ _ h => h) (by kernel_rfl) ?hy111 hH2 ?_
    case hy111 => (intro w_ hSw; (try dsimp only at hSw); (have hc := Kd.C_string (c := c8) Try.underlying46 Try.underlying5 Try.underlying9 hSw.2; go_simp; (first | done | with_reducible rfl)))
    simp only [Act.put, List.setIfInBounds_toArray, List.set_cons_zero, List.set_cons_succ]
    refine takeY (oi := { dst := some 15, op := Op.binOp BinOp.add 9 (Operand.tmp 11) (Operand.tmp 14) 9, type := 9, pos := "ref.go:48", after := #[{ on := 6, ground := Ground.data }, { on := 9, ground := Ground.data }], guard := none }) 10 (some 15) (v := ?v10_112) rfl rfl (by kernel_rfl) (by kernel_rfl) (by kernel_rfl) (fun _ _ _ h => h) (by kernel_rfl) ?hy112 hH2 ?_
    case hy112 => (intro w_ hSw; (try dsimp only at hSw); go_simp; (first | done | with_reducible rfl | rw [if_neg (by omega)]))
    simp only [Act.put, List.setIfInBounds_toArray, List.set_cons_zero, List.set_cons_succ]
    refine takeY (oi := { dst := some 4, op := Op.assign (Operand.tmp 15), type := 9, pos := "ref.go:48", after := #[{ on := 10, ground := Ground.data }, { on := 8, ground := Ground.chain }, { on := 0, ground := Ground.phase }, { on := 1, ground := Ground.phase }, { on := 2, ground := Ground.phase }, { on := 3, ground := Ground.phase }, { on := 4, ground := Ground.phase }, { on := 5, ground := Ground.phase }, { on := 6, ground := Ground.phase }, { on := 7, ground := Ground.phase }, { on := 8, ground := Ground.phase }, { on := 9, ground := Ground.phase }, { on := 10, ground := Ground.phase }], guard := none }) 11 (some 4) (v := ?v11_113) rfl rfl (by kernel_rfl) (by kernel_rfl) (by kernel_rfl) (fun _ _ _ h => h) (by kernel_rfl) ?hy113 hH2 ?_
    case hy113 => (intro w_ hSw; (try dsimp only at hSw); go_simp; (first | done | with_reducible rfl | rw [if_neg (by omega)]))
    simp only [Act.put, List.setIfInBounds_toArray, List.set_cons_zero, List.set_cons_succ]
    refine wpAnyH_done (by kernel_rfl) ?_ _
    have hEnd := hH2
    clear hH2
    go_wp2
    go_ret
    exact ⟨ret_str rfl, hEnd.1.1⟩
  · skip
    go_simp; refine (ref03_Bytes_calls A c l _ (Kd.C_below HX.out hH0) HF.out HG.out hr).mono ?_; rintro e w8 ⟨v8, rfl, hR8, hb8⟩; obtain ⟨A8, c8, rfl, -, hC8⟩ := Kd.R_reads hR8
    refine hK1.out _ _ ?hS114 (fun hH1 => ?_)
    case hS114 => ((try dsimp only); (exact keepB0 hb8 hH0))
    clear hK1 K1
    (try clear hH0)
    (try simp only [Act.put, List.setIfInBounds_toArray, List.set_cons_zero, List.set_cons_succ])
    refine wpAnyH_stronger (S2 := (fun w' => Below w.heap.size w w' ∧ (Kd.int .u8).C w' A8 (propsBytes l).length (propsBytes l))) (fun w_ h_ => h_.1) _ _ _ _ ?_
    replace hH1 := (And.intro hH1 hC8)
    refine takeY (oi := { dst := some 14, op := Op.convert 46 9 (Operand.tmp 13), type := 9, pos := "ref.go:48", after := #[{ on := 8, ground := Ground.data }], guard := none }) 9 (some 14) (v := ?v9_115) rfl rfl (by kernel_rfl) (by kernel_rfl) (by kernel_rfl) (fun _ _ _ h => h) (by kernel_rfl) ?hy115 hH1 ?_
    case hy115 => (intro w_ hSw; (try dsimp only at hSw); (have hc := Kd.C_string (c := c8) Try.underlying46 Try.underlying5 Try.underlying9 hSw.2; go_simp; (first | done | with_reducible rfl)))
    simp only [Act.put, List.setIfInBounds_toArray, List.set_cons_zero, List.set_cons_succ]
    refine wpAnyH_ready (rs := [3]) (by kernel_rfl) (by simp) ?_
    refine AllReadyH.cons (o := { dst := some 8, op := Op.buildSlice 46 1 #[(0, Operand.tmp 7)], type := 46, pos := "ref.go:48", after := #[{ on := 2, ground := Ground.data }], guard := none }) rfl (fun K2 hK2 => ?_) AllReadyH.nil
    go_simp
    refine hK2.out _ _ ?hS116 (fun hH2 => ?_)
    case hS116 => ((try dsimp only); (exact ⟨keepB0 (below_al _ _) hH1.1, Kd.C_below hH1.2 (below_al _ _)⟩))
    clear hK2 K2
    (try clear hH1)
    (try simp only [Act.put, List.setIfInBounds_toArray, List.set_cons_zero, List.set_cons_succ])
    refine wpAnyH_stronger (S2 := (fun w' => (Below w.heap.size w w' ∧ (Kd.int .u8).C w' A8 (propsBytes l).length (propsBytes l)) ∧ Blk w' w8.heap.size #[.int .u8 ((s.size : Int) % 256)] 5)) (fun w_ h_ => h_.1) _ _ _ _ ?_
    replace hH2 := (And.intro hH2 (blk_new w8 #[.int .u8 ((s.size : Int) % 256)] 5))
    refine takeY (oi := { dst := some 9, op := Op.convert 46 9 (Operand.tmp 8), type := 9, pos := "ref.go:48", after := #[{ on := 3, ground := Ground.data }], guard := none }) 4 (some 9) (v := ?v4_117) rfl rfl (by kernel_rfl) (by kernel_rfl) (by kernel_rfl) (fun _ _ _ h => h) (by kernel_rfl) ?hy117 hH2 ?_
    case hy117 => (intro w_ hSw; (try dsimp only at hSw); (have hc := str_blk1 hSw.2; go_simp; (first | done | with_reducible rfl)))
    simp only [Act.put, List.setIfInBounds_toArray, List.set_cons_zero, List.set_cons_succ]
    refine takeY (oi := { dst := some 11, op := Op.binOp BinOp.add 9 (Operand.tmp 9) (Operand.tmp 10) 9, type := 9, pos := "ref.go:48", after := #[{ on := 4, ground := Ground.data }, { on := 5, ground := Ground.data }], guard := none }) 6 (some 11) (v := ?v6_118) rfl rfl (by kernel_rfl) (by kernel_rfl) (by kernel_rfl) (fun _ _ _ h => h) (by kernel_rfl) ?hy118 hH2 ?_
    case hy118 => (intro w_ hSw; (try dsimp only at hSw); go_simp; (first | done | with_reducible rfl | rw [if_neg (by omega)]))
    simp only [Act.put, List.setIfInBounds_toArray, List.set_cons_zero, List.set_cons_succ]
    refine takeY (oi := { dst := some 15, op := Op.binOp BinOp.add 9 (Operand.tmp 11) (Operand.tmp 14) 9, type := 9, pos := "ref.go:48", after := #[{ on := 6, ground := Ground.data }, { on := 9, ground := Ground.data }], guard := none }) 10 (some 15) (v := ?v10_119) rfl rfl (by kernel_rfl) (by kernel_rfl) (by kernel_rfl) (fun _ _ _ h => h) (by kernel_rfl) ?hy119 hH2 ?_
    case hy119 => (intro w_ hSw; (try dsimp only at hSw); go_simp; (first | done | with_reducible rfl | rw [if_neg (by omega)]))
    simp only [Act.put, List.setIfInBounds_toArray, List.set_cons_zero, List.set_cons_succ]
    refine takeY (oi := { dst := some 4, op := Op.assign (Operand.tmp 15), type := 9, pos := "ref.go:48", after := #[{ on := 10, ground := Ground.data }, { on := 8, ground := Ground.chain }, { on := 0, ground := Ground.phase }, { on := 1, ground := Ground.phase }, { on := 2, ground := Ground.phase }, { on := 3, ground := Ground.phase }, { on := 4, ground := Ground.phase }, { on := 5, ground := Ground.phase }, { on := 6, ground := Ground.phase }, { on := 7, ground := Ground.phase }, { on := 8, ground := Ground.phase }, { on := 9, ground := Ground.phase }, { on := 10, ground := Ground.phase }], guard := none }) 11 (some 4) (v := ?v11_120) rfl rfl (by kernel_rfl) (by kernel_rfl) (by kernel_rfl) (fun _ _ _ h => h) (by kernel_rfl) ?hy120 hH2 ?_
    case hy120 => (intro w_ hSw; (try dsimp only at hSw); go_simp; (first | done | with_reducible rfl | rw [if_neg (by omega)]))
    simp only [Act.put, List.setIfInBounds_toArray, List.set_cons_zero, List.set_cons_succ]
    refine wpAnyH_done (by kernel_rfl) ?_ _
    have hEnd := hH2
    clear hH2
    go_wp2
    go_ret
    exact ⟨ret_str rfl, hEnd.1.1⟩
end Go.Proofs.Ytonbnlfijmapfaa
/- web.parse, cobwebref21.body. -/
namespace Go.Proofs.Ytonbnlfijmapfaa
open Go.RowKit Go.Shelf Go.Proofs.YtonbnlfijmapfaaW.PrintWords
set_option linter.unusedVariables false
set_option linter.unusedSimpArgs false

/-- '[]byte(s)', behind one name; with room. -/
theorem bytes_conv2 (w : World) (s : ByteArray) (hs : s.size ≤ 140737488355328) :
    ∃ A cap W', (convert 9 46 (.string s)).run Try.prog w = .ok (.slice A s.size cap) W' ∧ (Kd.int .u8).C W' A s.size (bytesOf s) ∧ Below w.heap.size w W' ∧ s.size ≤ cap := by
  have h := run_bytes_of_string (P := Try.prog) w 9 46 5 s Try.underlying9 Try.underlying46 Try.underlying5
  refine ⟨_, _, _, h, ?_, (below_drew (Below.refl w.heap.size w)).alloc (Nat.le_refl _) _, grownCap_ge _ _ _ _⟩
  refine Kd.C_of_reads (d := (0 : Int)) ⟨bytesOf_length s, by omega, fun hn => ⟨_, rfl, fun j hj => ?_⟩⟩
  have hj2 : j < s.data.size := hj
  rw [add_plain, show (w.drew.alloc _).cell? ⟨w.heap.size, j, none⟩ = _ from cell_of_row _ _ _ _ _ _ (heap_alloc_new w.drew _), bytesRow, Array.getElem?_append_left (by simpa using hj2)]
  simp [bytesOf, List.getD_eq_getElem?_getD, Array.getElem?_eq_getElem hj2]

/-- A label, properties of the call's own, and was it such a text? -/
def ParseRet (w : World) (x : ByteArray × List SPrp × Bool) (e : Ending) (w' : World) : Prop := ∃ v, e = .returned (.tuple #[.string x.1, v, .bool x.2.2]) ∧ kPrp.R 117 w' w.heap.size (fun _ => True) v x.2.1 ∧ Below w.heap.size w w'

set_option maxRecDepth 100000 in
set_option maxHeartbeats 4000000 in
theorem web_parse_calls (s : ByteArray) (w : World) (hs : s.size ≤ 1000000) :
    Calls Try.prog 76 #[.string s] w (ParseRet w (parseT s)) := by
  by_cases h0 : s.size = 0
  · have HE : Hid (parseT s = (⟨#[]⟩, [], false)) := Lib.hid (by rw [parseT, if_pos (.inl h0)])
    have h1 : s.toList = [] := by
      have : s = ⟨#[]⟩ := ByteArray.ext (Array.eq_empty_of_size_eq_zero h0)
      rw [this]; simp
    have h2 : s.toList.isEmpty = true := by rw [h1]; rfl
    go_enter Try.func76, Try.ntmps76
    go_wp2
    refine bodyPost_ret (v := .tuple #[.string ⟨#[]⟩, .slice none 0 0, .bool false]) (by simp [results, Try.results76, go_sem]) rfl ⟨_, by rw [HE.out], by rw [HE.out]; exact Kd.R_nil _ _ _ _ _, Below.refl _ _⟩
  · have hpos : 0 < s.size := by omega
    have h1 : ¬ s.toList = [] := by
      intro h
      have e : s = ByteArray.empty := by
        have h2 : s.toList = ByteArray.empty.toList := by rw [h]; simp
        exact of_decide_eq_true (by rw [← toList_eq, h2]; simp)
      rw [e] at h0
      exact h0 rfl
    have h2 : s.toList.isEmpty = false := by cases hh : s.toList with
      | nil => exact absurd hh h1
      | cons => rfl
    have HH := Lib.hid (headLen_at hpos)
    have hk0 : (0 : Int) ≤ ((s[0]'hpos).toNat : Int) := by omega
    have hk1 : ((s[0]'hpos).toNat : Int) < 256 := by have := (s[0]'hpos).toNat_lt; omega
    by_cases hlt : s.size < 1 + headLen s
    · have HE : Hid (parseT s = (⟨#[]⟩, [], false)) := Lib.hid (by rw [parseT, if_pos (.inr hlt)])
      have h3 : (s.size : Int) < (1 : Int) + ((s[0]'hpos).toNat : Int) := by rw [HH.out]; omega
      go_enter Try.func76, Try.ntmps76
      go_wp2
      refine bodyPost_ret (v := .tuple #[.string ⟨#[]⟩, .slice none 0 0, .bool false]) (by simp [results, Try.results76, go_sem]) rfl ⟨_, by rw [HE.out], by rw [HE.out]; exact Kd.R_nil _ _ _ _ _, Below.refl _ _⟩
    · have h3 : ¬ (s.size : Int) < (1 : Int) + ((s[0]'hpos).toNat : Int) := by rw [HH.out]; omega
      have HHp : Hid (1 + (s[0]'hpos).toNat = 1 + headLen s) := Lib.hid (by rw [HH.out])
      obtain ⟨A1, c1, w1, e1, r1, b1, l1⟩ := bytes_conv2 w (s.extract (1 + (s[0]'hpos).toNat) s.size) (by simp [ByteArray.size_extract]; omega)
      have HX := Lib.hid (takeP_ok (b := bytesOf (s.extract (1 + (s[0]'hpos).toNat) s.size)) (fun x hx => byteList_bytesOf _ x hx))
      have el : (bytesOf (s.extract (1 + (s[0]'hpos).toNat) s.size)).length = s.size - (1 + (s[0]'hpos).toNat) := by rw [bytesOf_length]; simp [ByteArray.size_extract]
      obtain ⟨⟨ps, k, er⟩, hr⟩ : ∃ r, takeP (bytesOf (s.extract (1 + (s[0]'hpos).toNat) s.size)) = r := ⟨_, rfl⟩
      have HC : Hid (Calls Try.prog 107 #[.slice A1 (s.size - (1 + (s[0]'hpos).toNat)) c1] w1 fun e' w' => ∃ v, e' = .returned (.tuple #[v, .int .i64 k, .int .i64 er]) ∧ kPrp.R 117 w' w1.heap.size (fun _ => True) v ps ∧ Below w1.heap.size w1 w') := Lib.hid (by
        have h4 := props_Take_calls A1 c1 (bytesOf (s.extract (1 + (s[0]'hpos).toNat) s.size)) w1 (by rw [bytesOf_length]; exact r1) (by rw [bytesOf_length]; exact l1) (fun x hx => byteList_bytesOf _ x hx) (by rw [el]; omega)
        rw [hr, el] at h4
        exact h4)
      have HP : Hid (parseT s = (s.extract 1 (1 + (s[0]'hpos).toNat), ps, decide (er = 0) && decide ((1 : Int) + ((s[0]'hpos).toNat : Int) + k = (s.size : Int)))) := Lib.hid (by
        rw [parseT, if_neg (by omega), ← HH.out, show 1 + (s[0]'hpos).toNat = (1 + (s[0]'hpos).toNat) by omega, hr])
      have hk := HX.out
      rw [hr, el] at hk
      obtain ⟨-, hk2, hk3⟩ := hk
      have HW := Lib.hid b1
      clear HX el hr r1 b1 l1
      go_enter Try.func76, Try.ntmps76
      go_wp2_with (go_at_call 107; refine HC.out.mono ?_; rintro e' w3 ⟨v, rfl, hR, hb3⟩; have HR := Lib.hid (Kd.R_lower hR HW.out.size); have HB := Lib.hid (keepB0 hb3 HW.out); clear hR hb3)
      · rename_i he
        refine bodyPost_ret (v := .tuple #[.string (s.extract 1 (1 + (s[0]'hpos).toNat)), v, .bool (decide ((1 : Int) + ((s[0]'hpos).toNat : Int) + k = (s.size : Int)))]) (by simp [results, Try.results76, go_sem] <;> rfl) rfl ⟨v, by rw [HP.out, decide_eq_true he, Bool.true_and, show decide ((1 : Int) + ((s[0]'hpos).toNat : Int) + k = (s.size : Int)) = decide ((1 : Int) + ((s[0]'hpos).toNat : Int) + k = (s.size : Int)) from decide_eq_decide.2 (by omega)], by rw [HP.out]; exact HR.out, HB.out⟩
      · rename_i he
        refine bodyPost_ret (v := .tuple #[.string (s.extract 1 (1 + (s[0]'hpos).toNat)), v, .bool false]) (by simp [results, Try.results76, go_sem]) rfl ⟨v, by rw [HP.out, decide_eq_false he]; rfl, by rw [HP.out]; exact HR.out, HB.out⟩

set_option maxRecDepth 100000 in
set_option maxHeartbeats 4000000 in
theorem ref21_body_calls (s : ByteArray) (w : World) (hs : s.size ≤ 1000000) :
    Calls Try.prog 78 #[.string s] w (ParseRet w (parseT s)) := by
  by_cases h0 : s.size = 0
  · have HE : Hid (parseT s = (⟨#[]⟩, [], false)) := Lib.hid (by rw [parseT, if_pos (.inl h0)])
    have hz : (s.size : Int) = 0 := by omega
    go_enter Try.func78, Try.ntmps78
    go_wp2
    refine bodyPost_ret (v := .tuple #[.string ⟨#[]⟩, .slice none 0 0, .bool false]) (by simp [results, Try.results78, go_sem]) rfl ⟨_, by rw [HE.out], by rw [HE.out]; exact Kd.R_nil _ _ _ _ _, Below.refl _ _⟩
  · have hpos : 0 < s.size := by omega
    have hz : ¬ (s.size : Int) = 0 := by omega
    have HH := Lib.hid (headLen_at hpos)
    have hk0 : (0 : Int) ≤ ((s[0]'hpos).toNat : Int) := by omega
    have hk1 : ((s[0]'hpos).toNat : Int) < 256 := by have := (s[0]'hpos).toNat_lt; omega
    by_cases hlt : s.size < 1 + headLen s
    · have HE : Hid (parseT s = (⟨#[]⟩, [], false)) := Lib.hid (by rw [parseT, if_pos (.inr hlt)])
      have h3 : (s.size : Int) < ((s[0]'hpos).toNat : Int) + 1 := by rw [HH.out]; omega
      go_enter Try.func78, Try.ntmps78
      go_wp2
      refine bodyPost_ret (v := .tuple #[.string ⟨#[]⟩, .slice none 0 0, .bool false]) (by simp [results, Try.results78, go_sem]) rfl ⟨_, by rw [HE.out], by rw [HE.out]; exact Kd.R_nil _ _ _ _ _, Below.refl _ _⟩
    · have h3 : ¬ (s.size : Int) < ((s[0]'hpos).toNat : Int) + 1 := by rw [HH.out]; omega
      have HHp : Hid (1 + (s[0]'hpos).toNat = 1 + headLen s) := Lib.hid (by rw [HH.out])
      obtain ⟨A1, c1, w1, e1, r1, b1, l1⟩ := bytes_conv2 w (s.extract ((s[0]'hpos).toNat + 1) s.size) (by simp [ByteArray.size_extract]; omega)
      have HX := Lib.hid (takeP_ok (b := bytesOf (s.extract ((s[0]'hpos).toNat + 1) s.size)) (fun x hx => byteList_bytesOf _ x hx))
      have el : (bytesOf (s.extract ((s[0]'hpos).toNat + 1) s.size)).length = s.size - ((s[0]'hpos).toNat + 1) := by rw [bytesOf_length]; simp [ByteArray.size_extract]
      obtain ⟨⟨ps, k, er⟩, hr⟩ : ∃ r, takeP (bytesOf (s.extract ((s[0]'hpos).toNat + 1) s.size)) = r := ⟨_, rfl⟩
      have HC : Hid (Calls Try.prog 108 #[.slice A1 (s.size - ((s[0]'hpos).toNat + 1)) c1] w1 fun e' w' => ∃ v, e' = .returned (.tuple #[v, .int .i64 k, .int .i64 er]) ∧ kPrp.R 117 w' w1.heap.size (fun _ => True) v ps ∧ Below w1.heap.size w1 w') := Lib.hid (by
        have h4 := ref03_Take_calls A1 c1 (bytesOf (s.extract ((s[0]'hpos).toNat + 1) s.size)) w1 (by rw [bytesOf_length]; exact r1) (by rw [bytesOf_length]; exact l1) (fun x hx => byteList_bytesOf _ x hx) (by rw [el]; omega)
        rw [hr, el] at h4
        exact h4)
      have HP : Hid (parseT s = (s.extract 1 ((s[0]'hpos).toNat + 1), ps, decide (er = 0) && decide ((1 : Int) + ((s[0]'hpos).toNat : Int) + k = (s.size : Int)))) := Lib.hid (by
        rw [parseT, if_neg (by omega), ← HH.out, show 1 + (s[0]'hpos).toNat = ((s[0]'hpos).toNat + 1) by omega, hr])
      have hk := HX.out
      rw [hr, el] at hk
      obtain ⟨-, hk2, hk3⟩ := hk
      have HW := Lib.hid b1
      clear HX el hr r1 b1 l1
      go_enter Try.func78, Try.ntmps78
      go_wp2_with (go_at_call 108; refine HC.out.mono ?_; rintro e' w3 ⟨v, rfl, hR, hb3⟩; have HR := Lib.hid (Kd.R_lower hR HW.out.size); have HB := Lib.hid (keepB0 hb3 HW.out); clear hR hb3)
      · rename_i he
        refine bodyPost_ret (v := .tuple #[.string (s.extract 1 ((s[0]'hpos).toNat + 1)), v, .bool (decide (k = (s.size : Int) - ((s[0]'hpos).toNat : Int) - 1))]) (by simp [results, Try.results78, go_sem] <;> rfl) rfl ⟨v, by rw [HP.out, decide_eq_true he, Bool.true_and, show decide ((1 : Int) + ((s[0]'hpos).toNat : Int) + k = (s.size : Int)) = decide (k = (s.size : Int) - ((s[0]'hpos).toNat : Int) - 1) from decide_eq_decide.2 (by omega)], by rw [HP.out]; exact HR.out, HB.out⟩
      · rename_i he
        refine bodyPost_ret (v := .tuple #[.string (s.extract 1 ((s[0]'hpos).toNat + 1)), v, .bool false]) (by simp [results, Try.results78, go_sem]) rfl ⟨v, by rw [HP.out, decide_eq_false he]; rfl, by rw [HP.out]; exact HR.out, HB.out⟩
end Go.Proofs.Ytonbnlfijmapfaa
/- web.ParseVertex, cobwebref21.Vertex. -/
namespace Go.Proofs.Ytonbnlfijmapfaa
open Go.RowKit Go.Shelf Go.Proofs.YtonbnlfijmapfaaW.PrintWords
set_option linter.unusedVariables false
set_option linter.unusedSimpArgs false

theorem R_set3 {α : Type} {d : Kd α} {e base g t : Nat} {w : World} {ok : Nat → Prop} {v : Value} {xs : List α} {cs : Array Value} (h : d.R e w base ok v xs) (hb : Blk w g cs t) (ht : ∀ q, q ∈ e :: d.E → q ≠ t) (u0 u1 u2 : Value) :
    d.R e (((w.setCell ⟨g, 0, none⟩ u0).setCell ⟨g, 1, none⟩ u1).setCell ⟨g, 2, none⟩ u2) base ok v xs :=
  Kd.R_set (Kd.R_set (Kd.R_set h hb ht 0 u0) (blk_set hb 0 u0) ht 1 u1) (blk_set (blk_set hb 0 u0) 1 u1) ht 2 u2
theorem R_set5 {α : Type} {d : Kd α} {e base g t : Nat} {w : World} {ok : Nat → Prop} {v : Value} {xs : List α} {cs : Array Value} (h : d.R e w base ok v xs) (hb : Blk w g cs t) (ht : ∀ q, q ∈ e :: d.E → q ≠ t) (u0 u1 u2 u3 u4 : Value) :
    d.R e (((((w.setCell ⟨g, 0, none⟩ u0).setCell ⟨g, 1, none⟩ u1).setCell ⟨g, 2, none⟩ u2).setCell ⟨g, 3, none⟩ u3).setCell ⟨g, 4, none⟩ u4) base ok v xs :=
  Kd.R_set (Kd.R_set (R_set3 h hb ht u0 u1 u2) (blk_set (blk_set (blk_set hb 0 u0) 1 u1) 2 u2) ht 3 u3) (blk_set (blk_set (blk_set (blk_set hb 0 u0) 1 u1) 2 u2) 3 u3) ht 4 u4
def okN (b : Bool) : Value := .int .i64 (if b then 0 else 10)
/-- A vertex, out of a text; and was it one? -/
def readV (id : Int) (s : ByteArray) : SVert × Bool :=
  if (parseT s).2.2 = true ∧ checkN (parseT s).1 (parseT s).2.1 [id] = 0 then (⟨id, (parseT s).1, (parseT s).2.1⟩, true) else (⟨0, ⟨#[]⟩, []⟩, false)
def VertRet (tf : Bool → Value) (w : World) (x : SVert × Bool) (e : Ending) (w' : World) : Prop := ∃ v, e = .returned (.tuple #[.agg #[.int .i64 x.1.f0, .string x.1.f1, v], tf x.2]) ∧ kPrp.R 117 w' w.heap.size (fun _ => True) v x.1.f2 ∧ Below w.heap.size w w'


set_option maxRecDepth 100000 in
set_option maxHeartbeats 4000000 in
theorem web_ParseVertex_calls (id : Int) (s : ByteArray) (w : World) (hs : s.size ≤ 100000) :
    Calls Try.prog 37 #[.int .i64 id, .string s] w (VertRet (okN) w (readV id s)) := by
  have HP : Hid (∀ W, Calls Try.prog 76 #[.string s] W (ParseRet W (parseT s))) := Lib.hid (fun W => web_parse_calls s W (by omega))
  have HF := Lib.hid (readOk_fits (parseT_ok s))
  have hl : (parseT s).1.size ≤ 100000 := by have := parseT_size s; omega
  have HV := Lib.hid (show readV id s = (if (parseT s).2.2 = true ∧ checkN (parseT s).1 (parseT s).2.1 [id] = 0 then (⟨id, (parseT s).1, (parseT s).2.1⟩, true) else (⟨0, ⟨#[]⟩, []⟩, false)) from rfl)
  obtain ⟨⟨l, ps, ok⟩, hp⟩ : ∃ r, parseT s = r := ⟨_, rfl⟩
  rw [hp] at HP HF hl HV
  clear hp
  simp only at HF hl HV
  cases ok with
  | false =>
    rw [if_neg (by simp)] at HV
    go_enter Try.func37, Try.ntmps37
    go_wp2_with (go_at_call 76; refine (HP.out _).mono ?_; rintro e' w1 ⟨v, rfl, -, hb1⟩; have HB := Lib.hid (keepB0 hb1 (below_al w _)); have HK := Lib.hid (blk_below hb1 (blk_new w #[.int .i64 0, .string ⟨#[]⟩, .slice none 0 0] 24)); clear hb1; have hc0 := blk_cell HK.out 0; have hc1 := blk_cell HK.out 1; have hc2 := blk_cell HK.out 2; simp only [List.getElem?_toArray, List.getElem?_cons_zero, List.getElem?_cons_succ] at hc0 hc1 hc2; have hf0 := blk_frozen HK.out 0; have hf1 := blk_frozen HK.out 1; have hf2 := blk_frozen HK.out 2)
    have hK := blk_set3 HK.out (.int .i64 0) (.string ⟨#[]⟩) (.slice none 0 0)
    have k0 := blk_cell hK 0
    have k1 := blk_cell hK 1
    have k2 := blk_cell hK 2
    simp only [List.getElem?_toArray, List.getElem?_cons_zero, List.getElem?_cons_succ] at k0 k1 k2
    refine bodyPost_ret (v := .tuple #[.agg #[.int .i64 0, .string ⟨#[]⟩, (.slice none 0 0)], (okN false)]) (by simp [results, Try.results37, go_sem, k0, k1, k2, okN]) rfl ⟨(.slice none 0 0), by rw [HV.out], by rw [HV.out]; exact Kd.R_nil _ _ _ _ _, below_set3 HB.out (Nat.le_refl _) _ _ _⟩
  | true =>
    by_cases hc : checkN l ps [id] = 0
    · rw [if_pos ⟨rfl, hc⟩] at HV
      go_enter Try.func37, Try.ntmps37
      go_wp2_with (first
        | (go_at_call 76; refine (HP.out _).mono ?_; rintro e' w1 ⟨v, rfl, hR, hb1⟩; have HB := Lib.hid (keepB0 hb1 (below_al w _)); have HK := Lib.hid (blk_below hb1 (blk_new w #[.int .i64 0, .string ⟨#[]⟩, .slice none 0 0] 24)); clear hb1; obtain ⟨A1, c1, rfl, -, hC1⟩ := Kd.R_reads hR; have HR := Lib.hid (Kd.R_lower (base' := w.heap.size) hR (below_al w _).size); have HC := Lib.hid hC1; clear hR hC1)
        | (go_at_call 46; refine (graph_Check_calls l A1 _ c1 1 ps [id] _ hl (Kd.C_alloc HC.out _) HF.out ?hI).mono ?_; (case hI => exact C_boxg (Kd.int .i64) (by decide) _ _ (by simp) id #[.int .i64 id] _ rfl); rw [hc]; rintro e w2 ⟨rfl, hb2⟩; replace HR := Lib.hid (Kd.R_below (Kd.R_alloc HR.out _) hb2); replace HK := Lib.hid (blk_below hb2 (blk_alloc HK.out _)); replace HB := Lib.hid (keepB0 hb2 (keepB0 (below_al _ _) HB.out)); have hc0 := blk_cell HK.out 0; have hc1 := blk_cell HK.out 1; have hc2 := blk_cell HK.out 2; simp only [List.getElem?_toArray, List.getElem?_cons_zero, List.getElem?_cons_succ] at hc0 hc1 hc2; have hf0 := blk_frozen HK.out 0; have hf1 := blk_frozen HK.out 1; have hf2 := blk_frozen HK.out 2; clear hb2))
      have hK := blk_set3 HK.out (.int .i64 id) (.string l) (.slice A1 ps.length c1)
      have k0 := blk_cell hK 0
      have k1 := blk_cell hK 1
      have k2 := blk_cell hK 2
      simp only [List.getElem?_toArray, List.getElem?_cons_zero, List.getElem?_cons_succ] at k0 k1 k2
      refine bodyPost_ret (v := .tuple #[.agg #[.int .i64 id, .string l, (.slice A1 ps.length c1)], (okN true)]) (by simp [results, Try.results37, go_sem, k0, k1, k2, okN]) rfl ⟨(.slice A1 ps.length c1), by rw [HV.out], by rw [HV.out]; exact R_set3 HR.out HK.out (by decide) _ _ _, below_set3 HB.out (Nat.le_refl _) _ _ _⟩
    · rw [if_neg (fun h => hc h.2)] at HV
      go_enter Try.func37, Try.ntmps37
      go_wp2_with (first
        | (go_at_call 76; refine (HP.out _).mono ?_; rintro e' w1 ⟨v, rfl, hR, hb1⟩; have HB := Lib.hid (keepB0 hb1 (below_al w _)); have HK := Lib.hid (blk_below hb1 (blk_new w #[.int .i64 0, .string ⟨#[]⟩, .slice none 0 0] 24)); clear hb1; obtain ⟨A1, c1, rfl, -, hC1⟩ := Kd.R_reads hR; have HC := Lib.hid hC1; clear hR hC1)
        | (go_at_call 46; refine (graph_Check_calls l A1 _ c1 1 ps [id] _ hl (Kd.C_alloc HC.out _) HF.out ?hI).mono ?_; (case hI => exact C_boxg (Kd.int .i64) (by decide) _ _ (by simp) id #[.int .i64 id] _ rfl); rintro e w2 ⟨rfl, hb2⟩; replace HK := Lib.hid (blk_below hb2 (blk_alloc HK.out _)); replace HB := Lib.hid (keepB0 hb2 (keepB0 (below_al _ _) HB.out)); have hc0 := blk_cell HK.out 0; have hc1 := blk_cell HK.out 1; have hc2 := blk_cell HK.out 2; simp only [List.getElem?_toArray, List.getElem?_cons_zero, List.getElem?_cons_succ] at hc0 hc1 hc2; have hf0 := blk_frozen HK.out 0; have hf1 := blk_frozen HK.out 1; have hf2 := blk_frozen HK.out 2; clear hb2))
      have hK := blk_set3 HK.out (.int .i64 0) (.string ⟨#[]⟩) (.slice none 0 0)
      have k0 := blk_cell hK 0
      have k1 := blk_cell hK 1
      have k2 := blk_cell hK 2
      simp only [List.getElem?_toArray, List.getElem?_cons_zero, List.getElem?_cons_succ] at k0 k1 k2
      refine bodyPost_ret (v := .tuple #[.agg #[.int .i64 0, .string ⟨#[]⟩, (.slice none 0 0)], (okN false)]) (by simp [results, Try.results37, go_sem, k0, k1, k2, okN]) rfl ⟨(.slice none 0 0), by rw [HV.out], by rw [HV.out]; exact Kd.R_nil _ _ _ _ _, below_set3 HB.out (Nat.le_refl _) _ _ _⟩

set_option maxRecDepth 100000 in
set_option maxHeartbeats 4000000 in
theorem ref21_Vertex_calls (id : Int) (s : ByteArray) (w : World) (hs : s.size ≤ 100000) :
    Calls Try.prog 42 #[.int .i64 id, .string s] w (VertRet (.bool) w (readV id s)) := by
  have HP : Hid (∀ W, Calls Try.prog 78 #[.string s] W (ParseRet W (parseT s))) := Lib.hid (fun W => ref21_body_calls s W (by omega))
  have HF := Lib.hid (readOk_fits (parseT_ok s))
  have hl : (parseT s).1.size ≤ 100000 := by have := parseT_size s; omega
  have HV := Lib.hid (show readV id s = (if (parseT s).2.2 = true ∧ checkN (parseT s).1 (parseT s).2.1 [id] = 0 then (⟨id, (parseT s).1, (parseT s).2.1⟩, true) else (⟨0, ⟨#[]⟩, []⟩, false)) from rfl)
  obtain ⟨⟨l, ps, ok⟩, hp⟩ : ∃ r, parseT s = r := ⟨_, rfl⟩
  rw [hp] at HP HF hl HV
  clear hp
  simp only at HF hl HV
  cases ok with
  | false =>
    rw [if_neg (by simp)] at HV
    go_enter Try.func42, Try.ntmps42
    go_wp2_with (go_at_call 78; refine (HP.out _).mono ?_; rintro e' w1 ⟨v, rfl, -, hb1⟩; have HB := Lib.hid (keepB0 hb1 (below_al w _)); have HK := Lib.hid (blk_below hb1 (blk_new w #[.int .i64 0, .string ⟨#[]⟩, .slice none 0 0] 24)); clear hb1; have hc0 := blk_cell HK.out 0; have hc1 := blk_cell HK.out 1; have hc2 := blk_cell HK.out 2; simp only [List.getElem?_toArray, List.getElem?_cons_zero, List.getElem?_cons_succ] at hc0 hc1 hc2; have hf0 := blk_frozen HK.out 0; have hf1 := blk_frozen HK.out 1; have hf2 := blk_frozen HK.out 2)
    have hK := blk_set3 HK.out (.int .i64 0) (.string ⟨#[]⟩) (.slice none 0 0)
    have k0 := blk_cell hK 0
    have k1 := blk_cell hK 1
    have k2 := blk_cell hK 2
    simp only [List.getElem?_toArray, List.getElem?_cons_zero, List.getElem?_cons_succ] at k0 k1 k2
    refine bodyPost_ret (v := .tuple #[.agg #[.int .i64 0, .string ⟨#[]⟩, (.slice none 0 0)], (.bool false)]) (by simp [results, Try.results42, go_sem, k0, k1, k2, okN]) rfl ⟨(.slice none 0 0), by rw [HV.out], by rw [HV.out]; exact Kd.R_nil _ _ _ _ _, below_set3 HB.out (Nat.le_refl _) _ _ _⟩
  | true =>
    by_cases hc : checkN l ps [id] = 0
    · rw [if_pos ⟨rfl, hc⟩] at HV
      go_enter Try.func42, Try.ntmps42
      go_wp2_with (first
        | (go_at_call 78; refine (HP.out _).mono ?_; rintro e' w1 ⟨v, rfl, hR, hb1⟩; have HB := Lib.hid (keepB0 hb1 (below_al w _)); have HK := Lib.hid (blk_below hb1 (blk_new w #[.int .i64 0, .string ⟨#[]⟩, .slice none 0 0] 24)); clear hb1; obtain ⟨A1, c1, rfl, -, hC1⟩ := Kd.R_reads hR; have HR := Lib.hid (Kd.R_lower (base' := w.heap.size) hR (below_al w _).size); have HC := Lib.hid hC1; clear hR hC1)
        | (go_at_call 36; refine (ref16_Check_calls l A1 _ c1 1 ps [id] _ hl (Kd.C_alloc HC.out _) HF.out ?hI).mono ?_; (case hI => exact C_boxg (Kd.int .i64) (by decide) _ _ (by simp) id #[.int .i64 id] _ rfl); rw [hc]; rintro e w2 ⟨rfl, hb2⟩; replace HR := Lib.hid (Kd.R_below (Kd.R_alloc HR.out _) hb2); replace HK := Lib.hid (blk_below hb2 (blk_alloc HK.out _)); replace HB := Lib.hid (keepB0 hb2 (keepB0 (below_al _ _) HB.out)); have hc0 := blk_cell HK.out 0; have hc1 := blk_cell HK.out 1; have hc2 := blk_cell HK.out 2; simp only [List.getElem?_toArray, List.getElem?_cons_zero, List.getElem?_cons_succ] at hc0 hc1 hc2; have hf0 := blk_frozen HK.out 0; have hf1 := blk_frozen HK.out 1; have hf2 := blk_frozen HK.out 2; clear hb2))
      have hK := blk_set3 HK.out (.int .i64 id) (.string l) (.slice A1 ps.length c1)
      have k0 := blk_cell hK 0
      have k1 := blk_cell hK 1
      have k2 := blk_cell hK 2
      simp only [List.getElem?_toArray, List.getElem?_cons_zero, List.getElem?_cons_succ] at k0 k1 k2
      refine bodyPost_ret (v := .tuple #[.agg #[.int .i64 id, .string l, (.slice A1 ps.length c1)], (.bool true)]) (by simp [results, Try.results42, go_sem, k0, k1, k2, okN]) rfl ⟨(.slice A1 ps.length c1), by rw [HV.out], by rw [HV.out]; exact R_set3 HR.out HK.out (by decide) _ _ _, below_set3 HB.out (Nat.le_refl _) _ _ _⟩
    · rw [if_neg (fun h => hc h.2)] at HV
      go_enter Try.func42, Try.ntmps42
      go_wp2_with (first
        | (go_at_call 78; refine (HP.out _).mono ?_; rintro e' w1 ⟨v, rfl, hR, hb1⟩; have HB := Lib.hid (keepB0 hb1 (below_al w _)); have HK := Lib.hid (blk_below hb1 (blk_new w #[.int .i64 0, .string ⟨#[]⟩, .slice none 0 0] 24)); clear hb1; obtain ⟨A1, c1, rfl, -, hC1⟩ := Kd.R_reads hR; have HC := Lib.hid hC1; clear hR hC1)
        | (go_at_call 36; refine (ref16_Check_calls l A1 _ c1 1 ps [id] _ hl (Kd.C_alloc HC.out _) HF.out ?hI).mono ?_; (case hI => exact C_boxg (Kd.int .i64) (by decide) _ _ (by simp) id #[.int .i64 id] _ rfl); rintro e w2 ⟨rfl, hb2⟩; replace HK := Lib.hid (blk_below hb2 (blk_alloc HK.out _)); replace HB := Lib.hid (keepB0 hb2 (keepB0 (below_al _ _) HB.out)); have hc0 := blk_cell HK.out 0; have hc1 := blk_cell HK.out 1; have hc2 := blk_cell HK.out 2; simp only [List.getElem?_toArray, List.getElem?_cons_zero, List.getElem?_cons_succ] at hc0 hc1 hc2; have hf0 := blk_frozen HK.out 0; have hf1 := blk_frozen HK.out 1; have hf2 := blk_frozen HK.out 2; clear hb2))
      have hK := blk_set3 HK.out (.int .i64 0) (.string ⟨#[]⟩) (.slice none 0 0)
      have k0 := blk_cell hK 0
      have k1 := blk_cell hK 1
      have k2 := blk_cell hK 2
      simp only [List.getElem?_toArray, List.getElem?_cons_zero, List.getElem?_cons_succ] at k0 k1 k2
      refine bodyPost_ret (v := .tuple #[.agg #[.int .i64 0, .string ⟨#[]⟩, (.slice none 0 0)], (.bool false)]) (by simp [results, Try.results42, go_sem, k0, k1, k2, okN]) rfl ⟨(.slice none 0 0), by rw [HV.out], by rw [HV.out]; exact Kd.R_nil _ _ _ _ _, below_set3 HB.out (Nat.le_refl _) _ _ _⟩

end Go.Proofs.Ytonbnlfijmapfaa
/- web.ParseEdge, cobwebref21.Edge. -/
namespace Go.Proofs.Ytonbnlfijmapfaa
open Go.RowKit Go.Shelf Go.Proofs.YtonbnlfijmapfaaW.PrintWords
set_option linter.unusedVariables false
set_option linter.unusedSimpArgs false

/-- An edge, out of a text; and was it one? -/
def readE (id : Int) (s : ByteArray) : SEdg × Bool :=
  if 10 ≤ s.size ∧ (parseT (s.extract 10 s.size)).2.2 = true ∧ checkN (parseT (s.extract 10 s.size)).1 (parseT (s.extract 10 s.size)).2.1 [id] = 0
  then (⟨id, (parseT (s.extract 10 s.size)).1, firstFive s, firstFive (s.extract 5 s.size), (parseT (s.extract 10 s.size)).2.1⟩, true) else (⟨0, ⟨#[]⟩, 0, 0, []⟩, false)
def EdgeRet (tf : Bool → Value) (w : World) (x : SEdg × Bool) (e : Ending) (w' : World) : Prop := ∃ v, e = .returned (.tuple #[.agg #[.int .i64 x.1.f0, .string x.1.f1, .int .i64 x.1.f2, .int .i64 x.1.f3, v], tf x.2]) ∧ kPrp.R 117 w' w.heap.size (fun _ => True) v x.1.f4 ∧ Below w.heap.size w w'
theorem web_number_low (s : ByteArray) (w : World) (hs : 5 ≤ s.size) (hs2 : s.size ≤ 1000000) :
    Calls Try.prog 74 #[.string s] w fun e w' => e = .returned (.int .i64 (firstFive s)) ∧ Below w.heap.size w w' := web_number_calls s w hs hs2
theorem ref21_Number_low (s : ByteArray) (w : World) (hs : 5 ≤ s.size) (hs2 : s.size ≤ 1000000) :
    Calls Try.prog 35 #[.string s] w fun e w' => e = .returned (.int .i64 (firstFive s)) ∧ Below w.heap.size w w' :=
  (ref21_Number_calls s w hs (by omega)).mono fun e w' ⟨he, hw⟩ => ⟨he, by subst hw; exact Below.refl _ _⟩


set_option maxRecDepth 100000 in
set_option maxHeartbeats 4000000 in
theorem web_ParseEdge_calls (id : Int) (s : ByteArray) (w : World) (hs : s.size ≤ 100000) :
    Calls Try.prog 39 #[.int .i64 id, .string s] w (EdgeRet (okN) w (readE id s)) := by
  by_cases h10 : s.size < 10
  · have h10' : (s.size : Int) < 10 := by omega
    have HV := Lib.hid (show readE id s = (⟨0, ⟨#[]⟩, 0, 0, []⟩, false) from by rw [readE, if_neg (by omega)])
    have HB := Lib.hid (below_al w (.cells #[.int .i64 0, .string ⟨#[]⟩, .int .i64 0, .int .i64 0, .slice none 0 0] 35))
    have HK := Lib.hid (blk_new w #[.int .i64 0, .string ⟨#[]⟩, .int .i64 0, .int .i64 0, .slice none 0 0] 35)
    go_enter Try.func39, Try.ntmps39
    go_wp2
    have hK := blk_set5 HK.out (.int .i64 0) (.string ⟨#[]⟩) (.int .i64 0) (.int .i64 0) (.slice none 0 0)
    have k0 := blk_cell hK 0
    have k1 := blk_cell hK 1
    have k2 := blk_cell hK 2
    have k3 := blk_cell hK 3
    have k4 := blk_cell hK 4
    simp only [List.getElem?_toArray, List.getElem?_cons_zero, List.getElem?_cons_succ] at k0 k1 k2 k3 k4
    refine bodyPost_ret (v := .tuple #[.agg #[.int .i64 0, .string ⟨#[]⟩, .int .i64 0, .int .i64 0, (.slice none 0 0)], (okN false)]) (by simp [results, Try.results39, go_sem, k0, k1, k2, k3, k4, okN]) rfl ⟨(.slice none 0 0), by rw [HV.out], ?_, ?_⟩
    · rw [HV.out]; exact Kd.R_nil _ _ _ _ _
    · first
        | exact below_al _ _
        | exact below_set5 HB.out (Nat.le_refl _) _ _ _ _ _
  · have h10' : ¬ (s.size : Int) < 10 := by omega
    have h11 : (10 : Int) ≤ (s.size : Int) := by omega
    have h12 : (5 : Int) ≤ (s.size : Int) := by omega
    have HP : Hid (∀ W, Calls Try.prog 76 #[.string (s.extract 10 s.size)] W (ParseRet W (parseT (s.extract 10 s.size)))) := Lib.hid (fun W => web_parse_calls _ W (by simp [ByteArray.size_extract]; omega))
    have HF := Lib.hid (readOk_fits (parseT_ok (s.extract 10 s.size)))
    have hl : (parseT (s.extract 10 s.size)).1.size ≤ 100000 := by have := parseT_size (s.extract 10 s.size); simp [ByteArray.size_extract] at this; omega
    have HN : Hid (∀ W, Calls Try.prog 74 #[.string s] W fun e w' => e = .returned (.int .i64 (firstFive s)) ∧ Below W.heap.size W w') := Lib.hid (fun W => web_number_low s W (by omega) (by omega))
    have HM : Hid (∀ W, Calls Try.prog 74 #[.string (s.extract 5 s.size)] W fun e w' => e = .returned (.int .i64 (firstFive (s.extract 5 s.size))) ∧ Below W.heap.size W w') := Lib.hid (fun W => web_number_low _ W (by simp [ByteArray.size_extract]; omega) (by simp [ByteArray.size_extract]; omega))
    have HV := Lib.hid (show readE id s = (if (parseT (s.extract 10 s.size)).2.2 = true ∧ checkN (parseT (s.extract 10 s.size)).1 (parseT (s.extract 10 s.size)).2.1 [id] = 0 then (⟨id, (parseT (s.extract 10 s.size)).1, firstFive s, firstFive (s.extract 5 s.size), (parseT (s.extract 10 s.size)).2.1⟩, true) else (⟨0, ⟨#[]⟩, 0, 0, []⟩, false)) from by
      rw [readE]; simp only [show 10 ≤ s.size from by omega, true_and])
    generalize firstFive s = n1 at HN HV
    generalize firstFive (s.extract 5 s.size) = n2 at HM HV
    obtain ⟨⟨l, ps, ok⟩, hp⟩ : ∃ r, parseT (s.extract 10 s.size) = r := ⟨_, rfl⟩
    rw [hp] at HP HF hl HV
    clear hp
    simp only at HF hl HV
    cases ok with
    | false =>
      rw [if_neg (by simp)] at HV
      go_enter Try.func39, Try.ntmps39
      go_wp2_with (go_at_call 76; refine (HP.out _).mono ?_; rintro e' w1 ⟨v, rfl, -, hb1⟩; have HB := Lib.hid (keepB0 hb1 (below_al w _)); have HK := Lib.hid (blk_below hb1 (blk_new w #[.int .i64 0, .string ⟨#[]⟩, .int .i64 0, .int .i64 0, .slice none 0 0] 35)); clear hb1; have hc0 := blk_cell HK.out 0; have hc1 := blk_cell HK.out 1; have hc2 := blk_cell HK.out 2; have hc3 := blk_cell HK.out 3; have hc4 := blk_cell HK.out 4; simp only [List.getElem?_toArray, List.getElem?_cons_zero, List.getElem?_cons_succ] at hc0 hc1 hc2 hc3 hc4; have hf0 := blk_frozen HK.out 0; have hf1 := blk_frozen HK.out 1; have hf2 := blk_frozen HK.out 2; have hf3 := blk_frozen HK.out 3; have hf4 := blk_frozen HK.out 4)
      have hK := blk_set5 HK.out (.int .i64 0) (.string ⟨#[]⟩) (.int .i64 0) (.int .i64 0) (.slice none 0 0)
      have k0 := blk_cell hK 0
      have k1 := blk_cell hK 1
      have k2 := blk_cell hK 2
      have k3 := blk_cell hK 3
      have k4 := blk_cell hK 4
      simp only [List.getElem?_toArray, List.getElem?_cons_zero, List.getElem?_cons_succ] at k0 k1 k2 k3 k4
      refine bodyPost_ret (v := .tuple #[.agg #[.int .i64 0, .string ⟨#[]⟩, .int .i64 0, .int .i64 0, (.slice none 0 0)], (okN false)]) (by simp [results, Try.results39, go_sem, k0, k1, k2, k3, k4, okN]) rfl ⟨(.slice none 0 0), by rw [HV.out], ?_, ?_⟩
      · rw [HV.out]; exact Kd.R_nil _ _ _ _ _
      · first
          | exact below_al _ _
          | exact below_set5 HB.out (Nat.le_refl _) _ _ _ _ _
    | true =>
      by_cases hc : checkN l ps [id] = 0
      · rw [if_pos ⟨rfl, hc⟩] at HV
        go_enter Try.func39, Try.ntmps39
        go_wp2_with (first
          | (go_at_call 76; refine (HP.out _).mono ?_; rintro e' w1 ⟨v, rfl, hR, hb1⟩; have HB := Lib.hid (keepB0 hb1 (below_al w _)); have HK := Lib.hid (blk_below hb1 (blk_new w #[.int .i64 0, .string ⟨#[]⟩, .int .i64 0, .int .i64 0, .slice none 0 0] 35)); clear hb1; obtain ⟨A1, c1, rfl, -, hC1⟩ := Kd.R_reads hR; have HR := Lib.hid (Kd.R_lower (base' := w.heap.size) hR (below_al w _).size); have HC := Lib.hid hC1; clear hR hC1)
          | (go_at_call 46; refine (graph_Check_calls l A1 _ c1 1 ps [id] _ hl (Kd.C_alloc HC.out _) HF.out ?hI).mono ?_; (case hI => exact C_boxg (Kd.int .i64) (by decide) _ _ (by simp) id #[.int .i64 id] _ rfl); rw [hc]; rintro e w2 ⟨rfl, hb2⟩; replace HR := Lib.hid (Kd.R_below (Kd.R_alloc HR.out _) hb2); replace HK := Lib.hid (blk_below hb2 (blk_alloc HK.out _)); replace HB := Lib.hid (keepB0 hb2 (keepB0 (below_al _ _) HB.out)); have hc0 := blk_cell HK.out 0; have hc1 := blk_cell HK.out 1; have hc2 := blk_cell HK.out 2; have hc3 := blk_cell HK.out 3; have hc4 := blk_cell HK.out 4; simp only [List.getElem?_toArray, List.getElem?_cons_zero, List.getElem?_cons_succ] at hc0 hc1 hc2 hc3 hc4; have hf0 := blk_frozen HK.out 0; have hf1 := blk_frozen HK.out 1; have hf2 := blk_frozen HK.out 2; have hf3 := blk_frozen HK.out 3; have hf4 := blk_frozen HK.out 4; clear hb2))
        refine wp_region_held_drew (S := (fun w' => (∃ v0 v1 v2 v3 v4, Blk w' w.heap.size #[v0, v1, v2, v3, v4] 35) ∧ kPrp.R 117 w' w.heap.size (fun _ => True) (.slice A1 ps.length c1) ps ∧ Below w.heap.size w w')) (by kernel_rfl) ?hS101 (fun hH0 => ?_)
        case hS101 => exact ⟨⟨_, _, _, _, _, blk_drew HK.out⟩, Kd.R_drew HR.out, below_drew HB.out⟩
        refine takeY (oi := { dst := some 31, op := Op.move (Operand.tmp 0), type := 3, pos := "web.go:148", after := #[], guard := none }) 0 (some 31) (v := ?v0_102) rfl rfl (by kernel_rfl) (by kernel_rfl) (by kernel_rfl) (fun _ _ _ h => h) (by kernel_rfl) ?hy102 hH0 ?_
        case hy102 => (intro w_ hSw; (try dsimp only at hSw); go_simp; (first | done | with_reducible rfl | rw [if_neg (by omega)]))
        simp only [Act.put, List.setIfInBounds_toArray, List.set_cons_zero, List.set_cons_succ]
        refine takeY (oi := { dst := some 32, op := Op.move (Operand.tmp 6), type := 9, pos := "web.go:148", after := #[], guard := none }) 1 (some 32) (v := ?v1_103) rfl rfl (by kernel_rfl) (by kernel_rfl) (by kernel_rfl) (fun _ _ _ h => h) (by kernel_rfl) ?hy103 hH0 ?_
        case hy103 => (intro w_ hSw; (try dsimp only at hSw); go_simp; (first | done | with_reducible rfl | rw [if_neg (by omega)]))
        simp only [Act.put, List.setIfInBounds_toArray, List.set_cons_zero, List.set_cons_succ]
        refine takeY (oi := { dst := some 33, op := Op.move (Operand.tmp 1), type := 9, pos := "web.go:148", after := #[], guard := none }) 2 (some 33) (v := ?v2_104) rfl rfl (by kernel_rfl) (by kernel_rfl) (by kernel_rfl) (fun _ _ _ h => h) (by kernel_rfl) ?hy104 hH0 ?_
        case hy104 => (intro w_ hSw; (try dsimp only at hSw); go_simp; (first | done | with_reducible rfl | rw [if_neg (by omega)]))
        simp only [Act.put, List.setIfInBounds_toArray, List.set_cons_zero, List.set_cons_succ]
        refine takeY (oi := { dst := some 35, op := Op.move (Operand.tmp 1), type := 9, pos := "web.go:148", after := #[], guard := none }) 4 (some 35) (v := ?v4_105) rfl rfl (by kernel_rfl) (by kernel_rfl) (by kernel_rfl) (fun _ _ _ h => h) (by kernel_rfl) ?hy105 hH0 ?_
        case hy105 => (intro w_ hSw; (try dsimp only at hSw); go_simp; (first | done | with_reducible rfl | rw [if_neg (by omega)]))
        simp only [Act.put, List.setIfInBounds_toArray, List.set_cons_zero, List.set_cons_succ]
        refine takeY (oi := { dst := some 36, op := Op.slice 9 (Operand.tmp 35) (some (Operand.const (Value.int IntKind.i64 5))) none none, type := 9, pos := "web.go:148", after := #[{ on := 4, ground := Ground.data }], guard := none }) 5 (some 36) (v := ?v5_106) rfl rfl (by kernel_rfl) (by kernel_rfl) (by kernel_rfl) (fun _ _ _ h => h) (by kernel_rfl) ?hy106 hH0 ?_
        case hy106 => (intro w_ hSw; (try dsimp only at hSw); go_simp; (first | done | with_reducible rfl | rw [if_neg (by omega)]))
        simp only [Act.put, List.setIfInBounds_toArray, List.set_cons_zero, List.set_cons_succ]
        refine takeY (oi := { dst := some 38, op := Op.move (Operand.tmp 7), type := 22, pos := "web.go:148", after := #[], guard := none }) 7 (some 38) (v := ?v7_107) rfl rfl (by kernel_rfl) (by kernel_rfl) (by kernel_rfl) (fun _ _ _ h => h) (by kernel_rfl) ?hy107 hH0 ?_
        case hy107 => (intro w_ hSw; (try dsimp only at hSw); go_simp; (first | done | with_reducible rfl | rw [if_neg (by omega)]))
        simp only [Act.put, List.setIfInBounds_toArray, List.set_cons_zero, List.set_cons_succ]
        refine wpAnyH_ready (rs := [3]) (by kernel_rfl) (by simp) ?_
        refine AllReadyH.cons (o := { dst := some 34, op := Op.call { callee := Callee.value (Operand.func 74), args := #[Operand.tmp 33], argTypes := #[9] }, type := 3, pos := "web.go:148", after := #[{ on := 2, ground := Ground.data }], guard := none }) rfl (fun K1 hK1 => ?_) AllReadyH.nil
        go_simp; refine (HN.out _).mono ?_; rintro e w4 ⟨rfl, hb4⟩
        refine hK1.out _ _ ?hS108 (fun hH1 => ?_)
        case hS108 => ((try dsimp only); ((obtain ⟨⟨v0, v1, v2, v3, v4, hk⟩, hr, hb⟩ := hH0; exact ⟨⟨_, _, _, _, _, blk_below hb4 hk⟩, Kd.R_below hr hb4, keepB0 hb4 hb⟩)))
        clear hK1 K1
        (try clear hH0)
        (try simp only [Act.put, List.setIfInBounds_toArray, List.set_cons_zero, List.set_cons_succ])
        refine wpAnyH_ready (rs := [6]) (by kernel_rfl) (by simp) ?_
        refine AllReadyH.cons (o := { dst := some 37, op := Op.call { callee := Callee.value (Operand.func 74), args := #[Operand.tmp 36], argTypes := #[9] }, type := 3, pos := "web.go:148", after := #[{ on := 5, ground := Ground.data }, { on := 3, ground := Ground.chain }], guard := none }) rfl (fun K2 hK2 => ?_) AllReadyH.nil
        go_simp; refine (HM.out _).mono ?_; rintro e w5 ⟨rfl, hb5⟩
        refine hK2.out _ _ ?hS109 (fun hH2 => ?_)
        case hS109 => ((try dsimp only); ((obtain ⟨⟨v0, v1, v2, v3, v4, hk⟩, hr, hb⟩ := hH1; exact ⟨⟨_, _, _, _, _, blk_below hb5 hk⟩, Kd.R_below hr hb5, keepB0 hb5 hb⟩)))
        clear hK2 K2
        (try clear hH1)
        (try simp only [Act.put, List.setIfInBounds_toArray, List.set_cons_zero, List.set_cons_succ])
        refine takeY (oi := { dst := some 39, op := Op.build 35 #[(0, Operand.tmp 31), (1, Operand.tmp 32), (2, Operand.tmp 34), (3, Operand.tmp 37), (4, Operand.tmp 38)], type := 35, pos := "web.go:148", after := #[{ on := 0, ground := Ground.data }, { on := 1, ground := Ground.data }, { on := 3, ground := Ground.data }, { on := 6, ground := Ground.data }, { on := 7, ground := Ground.data }], guard := none }) 8 (some 39) (v := ?v8_110) rfl rfl (by kernel_rfl) (by kernel_rfl) (by kernel_rfl) (fun _ _ _ h => h) (by kernel_rfl) ?hy110 hH2 ?_
        case hy110 => (intro w_ hSw; (try dsimp only at hSw); go_simp; (first | done | with_reducible rfl | rw [if_neg (by omega)]))
        simp only [Act.put, List.setIfInBounds_toArray, List.set_cons_zero, List.set_cons_succ]
        refine wpAnyH_ready (rs := [9]) (by kernel_rfl) (by simp) ?_
        refine AllReadyH.cons (o := { dst := none, op := Op.store 35 (Operand.tmp 4) (Operand.tmp 39), type := 0, pos := "web.go:148", after := #[{ on := 8, ground := Ground.data }, { on := 6, ground := Ground.chain }, { on := 0, ground := Ground.phase }, { on := 1, ground := Ground.phase }, { on := 2, ground := Ground.phase }, { on := 3, ground := Ground.phase }, { on := 4, ground := Ground.phase }, { on := 5, ground := Ground.phase }, { on := 6, ground := Ground.phase }, { on := 7, ground := Ground.phase }, { on := 8, ground := Ground.phase }], guard := none }) rfl (fun K3 hK3 => ?_) AllReadyH.nil
        clear hc0 hc1 hc2 hc3 hc4 hf0 hf1 hf2 hf3 hf4; obtain ⟨⟨v0, v1, v2, v3, v4, hk⟩, hr, hb⟩ := hH2; have hc0 := blk_cell hk 0; have hc1 := blk_cell hk 1; have hc2 := blk_cell hk 2; have hc3 := blk_cell hk 3; have hc4 := blk_cell hk 4; simp only [List.getElem?_toArray, List.getElem?_cons_zero, List.getElem?_cons_succ] at hc0 hc1 hc2 hc3 hc4; have hf0 := blk_frozen hk 0; have hf1 := blk_frozen hk 1; have hf2 := blk_frozen hk 2; have hf3 := blk_frozen hk 3; have hf4 := blk_frozen hk 4; go_simp
        refine hK3.out _ _ ?hS111 (fun hH3 => ?_)
        case hS111 => ((try dsimp only); (exact ⟨⟨_, _, _, _, _, blk_set5 hk _ _ _ _ _⟩, R_set5 hr hk (by decide) _ _ _ _ _, below_set5 hb (Nat.le_refl _) _ _ _ _ _⟩))
        clear hK3 K3
        (try clear hH2)
        (try simp only [Act.put, List.setIfInBounds_toArray, List.set_cons_zero, List.set_cons_succ])
        refine takeY (oi := { dst := some 5, op := Op.assign (Operand.const (Value.int IntKind.i64 0)), type := 28, pos := "web.go:148", after := #[{ on := 9, ground := Ground.chain }, { on := 0, ground := Ground.phase }, { on := 1, ground := Ground.phase }, { on := 2, ground := Ground.phase }, { on := 3, ground := Ground.phase }, { on := 4, ground := Ground.phase }, { on := 5, ground := Ground.phase }, { on := 6, ground := Ground.phase }, { on := 7, ground := Ground.phase }, { on := 8, ground := Ground.phase }, { on := 9, ground := Ground.phase }], guard := none }) 10 (some 5) (v := ?v10_112) rfl rfl (by kernel_rfl) (by kernel_rfl) (by kernel_rfl) (fun _ _ _ h => h) (by kernel_rfl) ?hy112 hH3 ?_
        case hy112 => (intro w_ hSw; (try dsimp only at hSw); go_simp; (first | done | with_reducible rfl | rw [if_neg (by omega)]))
        simp only [Act.put, List.setIfInBounds_toArray, List.set_cons_zero, List.set_cons_succ]
        refine wpAnyH_done (by kernel_rfl) ?_ _
        have hEnd := hH3
        clear hH3
        go_wp2
        have hK := blk_set5 hk (.int .i64 id) (.string l) (.int .i64 n1) (.int .i64 n2) (.slice A1 ps.length c1)
        have k0 := blk_cell hK 0
        have k1 := blk_cell hK 1
        have k2 := blk_cell hK 2
        have k3 := blk_cell hK 3
        have k4 := blk_cell hK 4
        simp only [List.getElem?_toArray, List.getElem?_cons_zero, List.getElem?_cons_succ] at k0 k1 k2 k3 k4
        refine bodyPost_ret (v := .tuple #[.agg #[.int .i64 id, .string l, .int .i64 n1, .int .i64 n2, (.slice A1 ps.length c1)], (okN true)]) (by simp [results, Try.results39, go_sem, k0, k1, k2, k3, k4, okN]) rfl ⟨(.slice A1 ps.length c1), by rw [HV.out], ?_, ?_⟩
        · rw [HV.out]; exact hEnd.2.1
        · exact hEnd.2.2
      · rw [if_neg (fun h => hc h.2)] at HV
        go_enter Try.func39, Try.ntmps39
        go_wp2_with (first
          | (go_at_call 76; refine (HP.out _).mono ?_; rintro e' w1 ⟨v, rfl, hR, hb1⟩; have HB := Lib.hid (keepB0 hb1 (below_al w _)); have HK := Lib.hid (blk_below hb1 (blk_new w #[.int .i64 0, .string ⟨#[]⟩, .int .i64 0, .int .i64 0, .slice none 0 0] 35)); clear hb1; obtain ⟨A1, c1, rfl, -, hC1⟩ := Kd.R_reads hR; have HC := Lib.hid hC1; clear hR hC1)
          | (go_at_call 46; refine (graph_Check_calls l A1 _ c1 1 ps [id] _ hl (Kd.C_alloc HC.out _) HF.out ?hI).mono ?_; (case hI => exact C_boxg (Kd.int .i64) (by decide) _ _ (by simp) id #[.int .i64 id] _ rfl); rintro e w2 ⟨rfl, hb2⟩; replace HK := Lib.hid (blk_below hb2 (blk_alloc HK.out _)); replace HB := Lib.hid (keepB0 hb2 (keepB0 (below_al _ _) HB.out)); have hc0 := blk_cell HK.out 0; have hc1 := blk_cell HK.out 1; have hc2 := blk_cell HK.out 2; have hc3 := blk_cell HK.out 3; have hc4 := blk_cell HK.out 4; simp only [List.getElem?_toArray, List.getElem?_cons_zero, List.getElem?_cons_succ] at hc0 hc1 hc2 hc3 hc4; have hf0 := blk_frozen HK.out 0; have hf1 := blk_frozen HK.out 1; have hf2 := blk_frozen HK.out 2; have hf3 := blk_frozen HK.out 3; have hf4 := blk_frozen HK.out 4; clear hb2))
        have hK := blk_set5 HK.out (.int .i64 0) (.string ⟨#[]⟩) (.int .i64 0) (.int .i64 0) (.slice none 0 0)
        have k0 := blk_cell hK 0
        have k1 := blk_cell hK 1
        have k2 := blk_cell hK 2
        have k3 := blk_cell hK 3
        have k4 := blk_cell hK 4
        simp only [List.getElem?_toArray, List.getElem?_cons_zero, List.getElem?_cons_succ] at k0 k1 k2 k3 k4
        refine bodyPost_ret (v := .tuple #[.agg #[.int .i64 0, .string ⟨#[]⟩, .int .i64 0, .int .i64 0, (.slice none 0 0)], (okN false)]) (by simp [results, Try.results39, go_sem, k0, k1, k2, k3, k4, okN]) rfl ⟨(.slice none 0 0), by rw [HV.out], ?_, ?_⟩
        · rw [HV.out]; exact Kd.R_nil _ _ _ _ _
        · first
            | exact below_al _ _
            | exact below_set5 HB.out (Nat.le_refl _) _ _ _ _ _

set_option maxRecDepth 100000 in
set_option maxHeartbeats 4000000 in
theorem ref21_Edge_calls (id : Int) (s : ByteArray) (w : World) (hs : s.size ≤ 100000) :
    Calls Try.prog 43 #[.int .i64 id, .string s] w (EdgeRet (.bool) w (readE id s)) := by
  by_cases h10 : s.size < 10
  · have h10' : (s.size : Int) < 10 := by omega
    have HV := Lib.hid (show readE id s = (⟨0, ⟨#[]⟩, 0, 0, []⟩, false) from by rw [readE, if_neg (by omega)])
    have HB := Lib.hid (below_al w (.cells #[.int .i64 0, .string ⟨#[]⟩, .int .i64 0, .int .i64 0, .slice none 0 0] 35))
    have HK := Lib.hid (blk_new w #[.int .i64 0, .string ⟨#[]⟩, .int .i64 0, .int .i64 0, .slice none 0 0] 35)
    go_enter Try.func43, Try.ntmps43
    go_wp2
    have hK := blk_set5 HK.out (.int .i64 0) (.string ⟨#[]⟩) (.int .i64 0) (.int .i64 0) (.slice none 0 0)
    have k0 := blk_cell hK 0
    have k1 := blk_cell hK 1
    have k2 := blk_cell hK 2
    have k3 := blk_cell hK 3
    have k4 := blk_cell hK 4
    simp only [List.getElem?_toArray, List.getElem?_cons_zero, List.getElem?_cons_succ] at k0 k1 k2 k3 k4
    refine bodyPost_ret (v := .tuple #[.agg #[.int .i64 0, .string ⟨#[]⟩, .int .i64 0, .int .i64 0, (.slice none 0 0)], (.bool false)]) (by simp [results, Try.results43, go_sem, k0, k1, k2, k3, k4, okN]) rfl ⟨(.slice none 0 0), by rw [HV.out], ?_, ?_⟩
    · rw [HV.out]; exact Kd.R_nil _ _ _ _ _
    · first
        | exact below_al _ _
        | exact below_set5 HB.out (Nat.le_refl _) _ _ _ _ _
  · have h10' : ¬ (s.size : Int) < 10 := by omega
    have h11 : (10 : Int) ≤ (s.size : Int) := by omega
    have h12 : (5 : Int) ≤ (s.size : Int) := by omega
    have HP : Hid (∀ W, Calls Try.prog 78 #[.string (s.extract 10 s.size)] W (ParseRet W (parseT (s.extract 10 s.size)))) := Lib.hid (fun W => ref21_body_calls _ W (by simp [ByteArray.size_extract]; omega))
    have HF := Lib.hid (readOk_fits (parseT_ok (s.extract 10 s.size)))
    have hl : (parseT (s.extract 10 s.size)).1.size ≤ 100000 := by have := parseT_size (s.extract 10 s.size); simp [ByteArray.size_extract] at this; omega
    have HN : Hid (∀ W, Calls Try.prog 35 #[.string s] W fun e w' => e = .returned (.int .i64 (firstFive s)) ∧ Below W.heap.size W w') := Lib.hid (fun W => ref21_Number_low s W (by omega) (by omega))
    have HM : Hid (∀ W, Calls Try.prog 35 #[.string (s.extract 5 s.size)] W fun e w' => e = .returned (.int .i64 (firstFive (s.extract 5 s.size))) ∧ Below W.heap.size W w') := Lib.hid (fun W => ref21_Number_low _ W (by simp [ByteArray.size_extract]; omega) (by simp [ByteArray.size_extract]; omega))
    have HV := Lib.hid (show readE id s = (if (parseT (s.extract 10 s.size)).2.2 = true ∧ checkN (parseT (s.extract 10 s.size)).1 (parseT (s.extract 10 s.size)).2.1 [id] = 0 then (⟨id, (parseT (s.extract 10 s.size)).1, firstFive s, firstFive (s.extract 5 s.size), (parseT (s.extract 10 s.size)).2.1⟩, true) else (⟨0, ⟨#[]⟩, 0, 0, []⟩, false)) from by
      rw [readE]; simp only [show 10 ≤ s.size from by omega, true_and])
    generalize firstFive s = n1 at HN HV
    generalize firstFive (s.extract 5 s.size) = n2 at HM HV
    obtain ⟨⟨l, ps, ok⟩, hp⟩ : ∃ r, parseT (s.extract 10 s.size) = r := ⟨_, rfl⟩
    rw [hp] at HP HF hl HV
    clear hp
    simp only at HF hl HV
    cases ok with
    | false =>
      rw [if_neg (by simp)] at HV
      go_enter Try.func43, Try.ntmps43
      go_wp2_with (go_at_call 78; refine (HP.out _).mono ?_; rintro e' w1 ⟨v, rfl, -, hb1⟩; have HB := Lib.hid (keepB0 hb1 (below_al w _)); have HK := Lib.hid (blk_below hb1 (blk_new w #[.int .i64 0, .string ⟨#[]⟩, .int .i64 0, .int .i64 0, .slice none 0 0] 35)); clear hb1; have hc0 := blk_cell HK.out 0; have hc1 := blk_cell HK.out 1; have hc2 := blk_cell HK.out 2; have hc3 := blk_cell HK.out 3; have hc4 := blk_cell HK.out 4; simp only [List.getElem?_toArray, List.getElem?_cons_zero, List.getElem?_cons_succ] at hc0 hc1 hc2 hc3 hc4; have hf0 := blk_frozen HK.out 0; have hf1 := blk_frozen HK.out 1; have hf2 := blk_frozen HK.out 2; have hf3 := blk_frozen HK.out 3; have hf4 := blk_frozen HK.out 4)
      have hK := blk_set5 HK.out (.int .i64 0) (.string ⟨#[]⟩) (.int .i64 0) (.int .i64 0) (.slice none 0 0)
      have k0 := blk_cell hK 0
      have k1 := blk_cell hK 1
      have k2 := blk_cell hK 2
      have k3 := blk_cell hK 3
      have k4 := blk_cell hK 4
      simp only [List.getElem?_toArray, List.getElem?_cons_zero, List.getElem?_cons_succ] at k0 k1 k2 k3 k4
      refine bodyPost_ret (v := .tuple #[.agg #[.int .i64 0, .string ⟨#[]⟩, .int .i64 0, .int .i64 0, (.slice none 0 0)], (.bool false)]) (by simp [results, Try.results43, go_sem, k0, k1, k2, k3, k4, okN]) rfl ⟨(.slice none 0 0), by rw [HV.out], ?_, ?_⟩
      · rw [HV.out]; exact Kd.R_nil _ _ _ _ _
      · first
          | exact below_al _ _
          | exact below_set5 HB.out (Nat.le_refl _) _ _ _ _ _
    | true =>
      by_cases hc : checkN l ps [id] = 0
      · rw [if_pos ⟨rfl, hc⟩] at HV
        go_enter Try.func43, Try.ntmps43
        go_wp2_with (first
          | (go_at_call 78; refine (HP.out _).mono ?_; rintro e' w1 ⟨v, rfl, hR, hb1⟩; have HB := Lib.hid (keepB0 hb1 (below_al w _)); have HK := Lib.hid (blk_below hb1 (blk_new w #[.int .i64 0, .string ⟨#[]⟩, .int .i64 0, .int .i64 0, .slice none 0 0] 35)); clear hb1; obtain ⟨A1, c1, rfl, -, hC1⟩ := Kd.R_reads hR; have HR := Lib.hid (Kd.R_lower (base' := w.heap.size) hR (below_al w _).size); have HC := Lib.hid hC1; clear hR hC1)
          | (go_at_call 36; refine (ref16_Check_calls l A1 _ c1 1 ps [id] _ hl (Kd.C_alloc HC.out _) HF.out ?hI).mono ?_; (case hI => exact C_boxg (Kd.int .i64) (by decide) _ _ (by simp) id #[.int .i64 id] _ rfl); rw [hc]; rintro e w2 ⟨rfl, hb2⟩; replace HR := Lib.hid (Kd.R_below (Kd.R_alloc HR.out _) hb2); replace HK := Lib.hid (blk_below hb2 (blk_alloc HK.out _)); replace HB := Lib.hid (keepB0 hb2 (keepB0 (below_al _ _) HB.out)); have hc0 := blk_cell HK.out 0; have hc1 := blk_cell HK.out 1; have hc2 := blk_cell HK.out 2; have hc3 := blk_cell HK.out 3; have hc4 := blk_cell HK.out 4; simp only [List.getElem?_toArray, List.getElem?_cons_zero, List.getElem?_cons_succ] at hc0 hc1 hc2 hc3 hc4; have hf0 := blk_frozen HK.out 0; have hf1 := blk_frozen HK.out 1; have hf2 := blk_frozen HK.out 2; have hf3 := blk_frozen HK.out 3; have hf4 := blk_frozen HK.out 4; clear hb2))
        refine wp_region_held_drew (S := (fun w' => (∃ v0 v1 v2 v3 v4, Blk w' w.heap.size #[v0, v1, v2, v3, v4] 35) ∧ kPrp.R 117 w' w.heap.size (fun _ => True) (.slice A1 ps.length c1) ps ∧ Below w.heap.size w w')) (by kernel_rfl) ?hS201 (fun hH0 => ?_)
        case hS201 => exact ⟨⟨_, _, _, _, _, blk_drew HK.out⟩, Kd.R_drew HR.out, below_drew HB.out⟩
        refine takeY (oi := { dst := some 31, op := Op.move (Operand.tmp 0), type := 3, pos := "ref.go:82", after := #[], guard := none }) 0 (some 31) (v := ?v0_202) rfl rfl (by kernel_rfl) (by kernel_rfl) (by kernel_rfl) (fun _ _ _ h => h) (by kernel_rfl) ?hy202 hH0 ?_
        case hy202 => (intro w_ hSw; (try dsimp only at hSw); go_simp; (first | done | with_reducible rfl | rw [if_neg (by omega)]))
        simp only [Act.put, List.setIfInBounds_toArray, List.set_cons_zero, List.set_cons_succ]
        refine takeY (oi := { dst := some 32, op := Op.move (Operand.tmp 6), type := 9, pos := "ref.go:82", after := #[], guard := none }) 1 (some 32) (v := ?v1_203) rfl rfl (by kernel_rfl) (by kernel_rfl) (by kernel_rfl) (fun _ _ _ h => h) (by kernel_rfl) ?hy203 hH0 ?_
        case hy203 => (intro w_ hSw; (try dsimp only at hSw); go_simp; (first | done | with_reducible rfl | rw [if_neg (by omega)]))
        simp only [Act.put, List.setIfInBounds_toArray, List.set_cons_zero, List.set_cons_succ]
        refine takeY (oi := { dst := some 33, op := Op.move (Operand.tmp 1), type := 9, pos := "ref.go:82", after := #[], guard := none }) 2 (some 33) (v := ?v2_204) rfl rfl (by kernel_rfl) (by kernel_rfl) (by kernel_rfl) (fun _ _ _ h => h) (by kernel_rfl) ?hy204 hH0 ?_
        case hy204 => (intro w_ hSw; (try dsimp only at hSw); go_simp; (first | done | with_reducible rfl | rw [if_neg (by omega)]))
        simp only [Act.put, List.setIfInBounds_toArray, List.set_cons_zero, List.set_cons_succ]
        refine takeY (oi := { dst := some 35, op := Op.move (Operand.tmp 1), type := 9, pos := "ref.go:82", after := #[], guard := none }) 4 (some 35) (v := ?v4_205) rfl rfl (by kernel_rfl) (by kernel_rfl) (by kernel_rfl) (fun _ _ _ h => h) (by kernel_rfl) ?hy205 hH0 ?_
        case hy205 => (intro w_ hSw; (try dsimp only at hSw); go_simp; (first | done | with_reducible rfl | rw [if_neg (by omega)]))
        simp only [Act.put, List.setIfInBounds_toArray, List.set_cons_zero, List.set_cons_succ]
        refine takeY (oi := { dst := some 36, op := Op.slice 9 (Operand.tmp 35) (some (Operand.const (Value.int IntKind.i64 5))) none none, type := 9, pos := "ref.go:82", after := #[{ on := 4, ground := Ground.data }], guard := none }) 5 (some 36) (v := ?v5_206) rfl rfl (by kernel_rfl) (by kernel_rfl) (by kernel_rfl) (fun _ _ _ h => h) (by kernel_rfl) ?hy206 hH0 ?_
        case hy206 => (intro w_ hSw; (try dsimp only at hSw); go_simp; (first | done | with_reducible rfl | rw [if_neg (by omega)]))
        simp only [Act.put, List.setIfInBounds_toArray, List.set_cons_zero, List.set_cons_succ]
        refine takeY (oi := { dst := some 38, op := Op.move (Operand.tmp 7), type := 22, pos := "ref.go:82", after := #[], guard := none }) 7 (some 38) (v := ?v7_207) rfl rfl (by kernel_rfl) (by kernel_rfl) (by kernel_rfl) (fun _ _ _ h => h) (by kernel_rfl) ?hy207 hH0 ?_
        case hy207 => (intro w_ hSw; (try dsimp only at hSw); go_simp; (first | done | with_reducible rfl | rw [if_neg (by omega)]))
        simp only [Act.put, List.setIfInBounds_toArray, List.set_cons_zero, List.set_cons_succ]
        refine wpAnyH_ready (rs := [3]) (by kernel_rfl) (by simp) ?_
        refine AllReadyH.cons (o := { dst := some 34, op := Op.call { callee := Callee.value (Operand.func 35), args := #[Operand.tmp 33], argTypes := #[9] }, type := 3, pos := "ref.go:82", after := #[{ on := 2, ground := Ground.data }], guard := none }) rfl (fun K1 hK1 => ?_) AllReadyH.nil
        go_simp; refine (HN.out _).mono ?_; rintro e w4 ⟨rfl, hb4⟩
        refine hK1.out _ _ ?hS208 (fun hH1 => ?_)
        case hS208 => ((try dsimp only); ((obtain ⟨⟨v0, v1, v2, v3, v4, hk⟩, hr, hb⟩ := hH0; exact ⟨⟨_, _, _, _, _, blk_below hb4 hk⟩, Kd.R_below hr hb4, keepB0 hb4 hb⟩)))
        clear hK1 K1
        (try clear hH0)
        (try simp only [Act.put, List.setIfInBounds_toArray, List.set_cons_zero, List.set_cons_succ])
        refine wpAnyH_ready (rs := [6]) (by kernel_rfl) (by simp) ?_
        refine AllReadyH.cons (o := { dst := some 37, op := Op.call { callee := Callee.value (Operand.func 35), args := #[Operand.tmp 36], argTypes := #[9] }, type := 3, pos := "ref.go:82", after := #[{ on := 5, ground := Ground.data }, { on := 3, ground := Ground.chain }], guard := none }) rfl (fun K2 hK2 => ?_) AllReadyH.nil
        go_simp; refine (HM.out _).mono ?_; rintro e w5 ⟨rfl, hb5⟩
        refine hK2.out _ _ ?hS209 (fun hH2 => ?_)
        case hS209 => ((try dsimp only); ((obtain ⟨⟨v0, v1, v2, v3, v4, hk⟩, hr, hb⟩ := hH1; exact ⟨⟨_, _, _, _, _, blk_below hb5 hk⟩, Kd.R_below hr hb5, keepB0 hb5 hb⟩)))
        clear hK2 K2
        (try clear hH1)
        (try simp only [Act.put, List.setIfInBounds_toArray, List.set_cons_zero, List.set_cons_succ])
        refine takeY (oi := { dst := some 39, op := Op.build 35 #[(0, Operand.tmp 31), (1, Operand.tmp 32), (2, Operand.tmp 34), (3, Operand.tmp 37), (4, Operand.tmp 38)], type := 35, pos := "ref.go:82", after := #[{ on := 0, ground := Ground.data }, { on := 1, ground := Ground.data }, { on := 3, ground := Ground.data }, { on := 6, ground := Ground.data }, { on := 7, ground := Ground.data }], guard := none }) 8 (some 39) (v := ?v8_210) rfl rfl (by kernel_rfl) (by kernel_rfl) (by kernel_rfl) (fun _ _ _ h => h) (by kernel_rfl) ?hy210 hH2 ?_
        case hy210 => (intro w_ hSw; (try dsimp only at hSw); go_simp; (first | done | with_reducible rfl | rw [if_neg (by omega)]))
        simp only [Act.put, List.setIfInBounds_toArray, List.set_cons_zero, List.set_cons_succ]
        refine wpAnyH_ready (rs := [9]) (by kernel_rfl) (by simp) ?_
        refine AllReadyH.cons (o := { dst := none, op := Op.store 35 (Operand.tmp 4) (Operand.tmp 39), type := 0, pos := "ref.go:82", after := #[{ on := 8, ground := Ground.data }, { on := 6, ground := Ground.chain }, { on := 0, ground := Ground.phase }, { on := 1, ground := Ground.phase }, { on := 2, ground := Ground.phase }, { on := 3, ground := Ground.phase }, { on := 4, ground := Ground.phase }, { on := 5, ground := Ground.phase }, { on := 6, ground := Ground.phase }, { on := 7, ground := Ground.phase }, { on := 8, ground := Ground.phase }], guard := none }) rfl (fun K3 hK3 => ?_) AllReadyH.nil
        clear hc0 hc1 hc2 hc3 hc4 hf0 hf1 hf2 hf3 hf4; obtain ⟨⟨v0, v1, v2, v3, v4, hk⟩, hr, hb⟩ := hH2; have hc0 := blk_cell hk 0; have hc1 := blk_cell hk 1; have hc2 := blk_cell hk 2; have hc3 := blk_cell hk 3; have hc4 := blk_cell hk 4; simp only [List.getElem?_toArray, List.getElem?_cons_zero, List.getElem?_cons_succ] at hc0 hc1 hc2 hc3 hc4; have hf0 := blk_frozen hk 0; have hf1 := blk_frozen hk 1; have hf2 := blk_frozen hk 2; have hf3 := blk_frozen hk 3; have hf4 := blk_frozen hk 4; go_simp
        refine hK3.out _ _ ?hS211 (fun hH3 => ?_)
        case hS211 => ((try dsimp only); (exact ⟨⟨_, _, _, _, _, blk_set5 hk _ _ _ _ _⟩, R_set5 hr hk (by decide) _ _ _ _ _, below_set5 hb (Nat.le_refl _) _ _ _ _ _⟩))
        clear hK3 K3
        (try clear hH2)
        (try simp only [Act.put, List.setIfInBounds_toArray, List.set_cons_zero, List.set_cons_succ])
        refine takeY (oi := { dst := some 5, op := Op.assign (Operand.const (Value.bool true)), type := 4, pos := "ref.go:82", after := #[{ on := 9, ground := Ground.chain }, { on := 0, ground := Ground.phase }, { on := 1, ground := Ground.phase }, { on := 2, ground := Ground.phase }, { on := 3, ground := Ground.phase }, { on := 4, ground := Ground.phase }, { on := 5, ground := Ground.phase }, { on := 6, ground := Ground.phase }, { on := 7, ground := Ground.phase }, { on := 8, ground := Ground.phase }, { on := 9, ground := Ground.phase }], guard := none }) 10 (some 5) (v := ?v10_212) rfl rfl (by kernel_rfl) (by kernel_rfl) (by kernel_rfl) (fun _ _ _ h => h) (by kernel_rfl) ?hy212 hH3 ?_
        case hy212 => (intro w_ hSw; (try dsimp only at hSw); go_simp; (first | done | with_reducible rfl | rw [if_neg (by omega)]))
        simp only [Act.put, List.setIfInBounds_toArray, List.set_cons_zero, List.set_cons_succ]
        refine wpAnyH_done (by kernel_rfl) ?_ _
        have hEnd := hH3
        clear hH3
        go_wp2
        have hK := blk_set5 hk (.int .i64 id) (.string l) (.int .i64 n1) (.int .i64 n2) (.slice A1 ps.length c1)
        have k0 := blk_cell hK 0
        have k1 := blk_cell hK 1
        have k2 := blk_cell hK 2
        have k3 := blk_cell hK 3
        have k4 := blk_cell hK 4
        simp only [List.getElem?_toArray, List.getElem?_cons_zero, List.getElem?_cons_succ] at k0 k1 k2 k3 k4
        refine bodyPost_ret (v := .tuple #[.agg #[.int .i64 id, .string l, .int .i64 n1, .int .i64 n2, (.slice A1 ps.length c1)], (.bool true)]) (by simp [results, Try.results43, go_sem, k0, k1, k2, k3, k4, okN]) rfl ⟨(.slice A1 ps.length c1), by rw [HV.out], ?_, ?_⟩
        · rw [HV.out]; exact hEnd.2.1
        · exact hEnd.2.2
      · rw [if_neg (fun h => hc h.2)] at HV
        go_enter Try.func43, Try.ntmps43
        go_wp2_with (first
          | (go_at_call 78; refine (HP.out _).mono ?_; rintro e' w1 ⟨v, rfl, hR, hb1⟩; have HB := Lib.hid (keepB0 hb1 (below_al w _)); have HK := Lib.hid (blk_below hb1 (blk_new w #[.int .i64 0, .string ⟨#[]⟩, .int .i64 0, .int .i64 0, .slice none 0 0] 35)); clear hb1; obtain ⟨A1, c1, rfl, -, hC1⟩ := Kd.R_reads hR; have HC := Lib.hid hC1; clear hR hC1)
          | (go_at_call 36; refine (ref16_Check_calls l A1 _ c1 1 ps [id] _ hl (Kd.C_alloc HC.out _) HF.out ?hI).mono ?_; (case hI => exact C_boxg (Kd.int .i64) (by decide) _ _ (by simp) id #[.int .i64 id] _ rfl); rintro e w2 ⟨rfl, hb2⟩; replace HK := Lib.hid (blk_below hb2 (blk_alloc HK.out _)); replace HB := Lib.hid (keepB0 hb2 (keepB0 (below_al _ _) HB.out)); have hc0 := blk_cell HK.out 0; have hc1 := blk_cell HK.out 1; have hc2 := blk_cell HK.out 2; have hc3 := blk_cell HK.out 3; have hc4 := blk_cell HK.out 4; simp only [List.getElem?_toArray, List.getElem?_cons_zero, List.getElem?_cons_succ] at hc0 hc1 hc2 hc3 hc4; have hf0 := blk_frozen HK.out 0; have hf1 := blk_frozen HK.out 1; have hf2 := blk_frozen HK.out 2; have hf3 := blk_frozen HK.out 3; have hf4 := blk_frozen HK.out 4; clear hb2))
        have hK := blk_set5 HK.out (.int .i64 0) (.string ⟨#[]⟩) (.int .i64 0) (.int .i64 0) (.slice none 0 0)
        have k0 := blk_cell hK 0
        have k1 := blk_cell hK 1
        have k2 := blk_cell hK 2
        have k3 := blk_cell hK 3
        have k4 := blk_cell hK 4
        simp only [List.getElem?_toArray, List.getElem?_cons_zero, List.getElem?_cons_succ] at k0 k1 k2 k3 k4
        refine bodyPost_ret (v := .tuple #[.agg #[.int .i64 0, .string ⟨#[]⟩, .int .i64 0, .int .i64 0, (.slice none 0 0)], (.bool false)]) (by simp [results, Try.results43, go_sem, k0, k1, k2, k3, k4, okN]) rfl ⟨(.slice none 0 0), by rw [HV.out], ?_, ?_⟩
        · rw [HV.out]; exact Kd.R_nil _ _ _ _ _
        · first
            | exact below_al _ _
            | exact below_set5 HB.out (Nat.le_refl _) _ _ _ _ _

end Go.Proofs.Ytonbnlfijmapfaa
/- Plain: what texts were written of is read out of them. No condition. -/
namespace Go.Proofs.Ytonbnlfijmapfaa
open Go Go.Proofs.YtonbnlfijmapfaaW.PrintWords

theorem strOf_bytesOf (s : ByteArray) : strOfNums (bytesOf s) = s := bytesOf_inj (bytesOf_strOfNums (byteList_bytesOf s))
theorem bytesOf_extract (s : ByteArray) (i j : Nat) : bytesOf (s.extract i j) = ((bytesOf s).take j).drop i := by
  simp [bytesOf, List.map_drop, List.map_take, List.drop_take]
theorem txGo_back : ∀ (b acc r : List Int) (a : Int), acc.length + b.length ≤ 200 → txGo (esc b ++ 0 :: 0 :: r) acc a = (⟨2, 0, strOfNums (acc ++ b)⟩, a + (esc b).length + 2, 0)
  | [], acc, r, a, _ => by rw [esc, List.nil_append, txGo_end, List.append_nil]; simp
  | c :: t, acc, r, a, h => by
    simp only [List.length_cons] at h
    rw [esc]
    by_cases hc : c = 0
    · rw [if_pos hc, List.cons_append, List.cons_append, txGo_zero _ _ _ (by omega), txGo_back t _ _ _ (by simp; omega), hc, List.append_assoc]
      simp only [List.length_cons, List.singleton_append, Prod.mk.injEq, and_true, true_and]; omega
    · rw [if_neg hc, List.cons_append, txGo_one _ _ _ _ hc (by omega), txGo_back t _ _ _ (by simp; omega), List.append_assoc]
      simp only [List.length_cons, List.singleton_append, Prod.mk.injEq, and_true, true_and]; omega
theorem takeV_back {k n : Int} {s : ByteArray} (r : List Int) (h : valOk k n s = true) (h0 : -9223372036854775808 ≤ n) (h1 : n ≤ 9223372036854775807) : takeV (valBytes k n s ++ r) = ((⟨k, n, s⟩ : SValue), ((valBytes k n s).length : Int), 0) := by
  rcases thingV_cases k n s with h2 | h2 | h2
  · rw [h] at h2; cases h2.1
  · obtain ⟨_, rfl, h3, _⟩ := h2
    have e := empty_of h3
    subst e
    rw [valBytes, if_pos rfl, intBytes, List.cons_append, takeV, if_neg (by decide), if_pos rfl, if_neg (by simp), List.take_left' (by simp), numOf_u8z _ (by omega) (by omega)]
    simp
  · obtain ⟨_, rfl, rfl, h3, _⟩ := h2
    rw [valBytes, if_neg (by decide), List.cons_append, takeV, if_pos rfl, List.append_assoc, List.cons_append, List.cons_append, List.nil_append, txGo_back _ _ _ _ (by rw [bytesOf_length]; simp; omega), List.nil_append, strOf_bytesOf]
    simp only [List.length_cons, List.length_append, List.length_nil, Prod.mk.injEq, and_true, true_and]; omega
theorem getD_of_drop {b : List Int} {a : Nat} {x : Int} {t : List Int} (h : b.drop a = x :: t) : b.getD a 0 = x ∧ b.drop (a + 1) = t ∧ a < b.length := by
  have hl : a < b.length := by
    rcases Nat.lt_or_ge a b.length with h2 | h2
    · exact h2
    · rw [List.drop_eq_nil_of_le h2] at h; cases h
  rw [List.drop_eq_getElem_cons hl] at h
  injection h with h1 h2
  exact ⟨by rw [List.getD_eq_getElem?_getD, List.getElem?_eq_getElem hl, Option.getD_some, h1], h2, hl⟩
theorem tpGo_back : ∀ (ps : List SPrp) (b r : List Int) (out : List SPrp) (a : Nat), b.drop a = ps.flatMap propBytes ++ r → propsFrom (out.getLast?.map (·.f0)) ps = true → ranged ps → shortKeys ps → a ≤ b.length →
    tpGo b ps.length out a = (out ++ ps, ((a + (ps.flatMap propBytes).length : Nat) : Int), 0)
  | [], b, r, out, a, _, _, _, _, _ => by rw [List.length_nil, tpGo]; simp
  | p :: t, b, r, out, a, h, hp, hg, hk, ha => by
    rw [List.flatMap_cons, propBytes, List.cons_append, List.cons_append] at h
    obtain ⟨e1, e2, e3⟩ := getD_of_drop h
    have hkp := hk p List.mem_cons_self
    have hgp := hg p List.mem_cons_self
    have ekl : keyLen b a = p.f0.size := by rw [keyLen, e1]; omega
    have ekt : (b.drop (a + 1)).take p.f0.size = bytesOf p.f0 := by rw [e2, List.append_assoc, List.append_assoc, List.take_left' (bytesOf_length _)]
    have ekd : b.drop (a + 1 + p.f0.size) = valBytes p.f1.f0 p.f1.f1 p.f1.f2 ++ (t.flatMap propBytes ++ r) := by
      rw [← List.drop_drop, e2, List.append_assoc, List.append_assoc, List.drop_left' (bytesOf_length _)]
    have eka : keyAt b a = p.f0 := by rw [keyAt, ekl, ekt, strOf_bytesOf]
    simp only [propsFrom, Bool.and_eq_true] at hp
    obtain ⟨⟨⟨hn, hv⟩, ho⟩, hq⟩ := hp
    have hob : orderBad out p.f0 = false := by
      unfold orderBad
      cases hl : out.getLast? with
      | none => rfl
      | some q =>
        rw [hl] at ho
        have ho2 : cmpS q.f0 p.f0 < 0 := of_decide_eq_true ho
        exact decide_eq_false (show ¬ (0 ≤ cmpS q.f0 p.f0) by omega)
    have hlen : a + 1 + p.f0.size ≤ b.length := by
      have := congrArg List.length h
      simp only [List.length_drop, List.length_cons, List.length_append, bytesOf_length] at this
      omega
    have hlen2 : a + 1 + p.f0.size + (valBytes p.f1.f0 p.f1.f1 p.f1.f2).length ≤ b.length := by
      have := congrArg List.length h
      simp only [List.length_drop, List.length_cons, List.length_append, bytesOf_length] at this
      omega
    rw [List.length_cons, tpGo_step (m := ((valBytes p.f1.f0 p.f1.f1 p.f1.f2).length : Int)) (v := ⟨p.f1.f0, p.f1.f1, p.f1.f2⟩) (by rw [ekl]; omega) (by rw [eka, hn, hob]; simp) (by rw [ekl, ekd]; exact takeV_back _ hv hgp.1 hgp.2), eka, ekl,
      tpGo_back t b r _ _ (by rw [Int.toNat_natCast, ← List.drop_drop, ekd, List.drop_left' rfl]) (by simpa using hq) (fun q hq => hg q (List.mem_cons_of_mem _ hq)) (fun q hq => hk q (List.mem_cons_of_mem _ hq)) (by omega)]
    simp only [List.append_assoc, List.singleton_append, List.flatMap_cons, propBytes, List.length_cons, List.length_append, bytesOf_length, Prod.mk.injEq, and_true, true_and]
    omega
theorem takeP_back {ps : List SPrp} (h : propsRight ps = true) (hg : ranged ps) (hk : shortKeys ps) : takeP (propsBytes ps) = (ps, ((propsBytes ps).length : Int), 0) := by
  have h16 := (propsRight_ok h).2
  have hp : propsFrom none ps = true := by simp only [propsRight, Bool.and_eq_true] at h; exact h.1
  show (if (16 : Int) < (ps.length : Int) then _ else tpGo (propsBytes ps) ((ps.length : Int)).toNat [] 1) = _
  rw [if_neg (by omega), Int.toNat_natCast, tpGo_back ps (propsBytes ps) [] [] 1 (by simp [propsBytes]) hp hg hk (by simp [propsBytes])]
  simp [propsBytes]; omega
theorem size_bytesOf (s : ByteArray) : s.size = (bytesOf s).length := (bytesOf_length s).symm
theorem parseT_back {label : ByteArray} {ps : List SPrp} (hl : label.size < 256) (h : propsRight ps = true) (hg : ranged ps) (hk : shortKeys ps) : parseT (bodyText label ps) = (label, ps, true) := by
  have hb := bytesOf_body (s := label) (propsRight_ok h).2
  have hsz : (bodyText label ps).size = 1 + label.size + (propsBytes ps).length := by
    rw [size_bytesOf, hb]; simp only [List.length_cons, List.length_append, bytesOf_length]; omega
  have hh : headLen (bodyText label ps) = label.size := by
    rw [headLen, hb, List.getD_cons_zero]; omega
  have e1 : (bodyText label ps).extract 1 (1 + label.size) = label := by
    apply bytesOf_inj
    rw [bytesOf_extract, hb, Nat.add_comm 1, List.take_succ_cons, List.drop_succ_cons, List.drop_zero, List.take_left' (bytesOf_length _)]
  have e2 : bytesOf ((bodyText label ps).extract (1 + label.size) (bodyText label ps).size) = propsBytes ps := by
    rw [bytesOf_extract, List.take_of_length_le (by rw [bytesOf_length]; exact Nat.le_refl _), hb, Nat.add_comm 1, List.drop_succ_cons, List.drop_left' (bytesOf_length _)]
  rw [parseT, hh, if_neg (by omega), e1, e2, takeP_back h hg hk]
  simp only [decide_true, Bool.true_and, Prod.mk.injEq, true_and, decide_eq_true_eq]
  omega
theorem readV_back {id : Int} {label : ByteArray} {ps : List SPrp} (hl : label.size < 256) (hg : ranged ps) (hk : shortKeys ps) (h : checkN label ps [id] = 0) : readV id (bodyText label ps) = (⟨id, label, ps⟩, true) := by
  rw [readV, parseT_back hl (checkN_ok h).2.2 hg hk, if_pos ⟨rfl, h⟩]
theorem numOf_five {n : Int} (h : idOk n = true) : numOf (fiveBytes n) = n := by
  simp only [idOk, Bool.and_eq_true, decide_eq_true_eq] at h
  simp only [fiveBytes, numOf, List.length_cons, List.length_nil, Nat.reduceAdd]
  have : (256 : Int) ^ 4 = 4294967296 ∧ (256 : Int) ^ 3 = 16777216 ∧ (256 : Int) ^ 2 = 65536 ∧ (256 : Int) ^ 1 = 256 ∧ (256 : Int) ^ 0 = 1 := ⟨rfl, rfl, rfl, rfl, rfl⟩
  obtain ⟨e4, e3, e2, e1, e0⟩ := this
  rw [e4, e3, e2, e1, e0]
  omega
theorem five_length (n : Int) : (fiveBytes n).length = 5 := rfl
theorem checkN_one {label : ByteArray} {ps : List SPrp} {id x y : Int} (h : checkN label ps [id, x, y] = 0) : checkN label ps [id] = 0 ∧ idOk id = true ∧ idOk x = true ∧ idOk y = true := by
  obtain ⟨h1, h2, h3⟩ := checkN_ok h
  simp only [List.all_cons, List.all_nil, Bool.and_true, Bool.and_eq_true] at h1
  refine ⟨?_, h1⟩
  rw [checkN, if_pos (by simp [h1.1]), if_pos h2, if_pos h3]
theorem readE_back {id x y : Int} {label : ByteArray} {ps : List SPrp} (hl : label.size < 256) (hg : ranged ps) (hk : shortKeys ps) (h : checkN label ps [id, x, y] = 0) :
    readE id (strOfNums (fiveBytes x) ++ strOfNums (fiveBytes y) ++ bodyText label ps) = (⟨id, label, x, y, ps⟩, true) := by
  obtain ⟨h1, _, hx, hy⟩ := checkN_one h
  have hb : bytesOf (strOfNums (fiveBytes x) ++ strOfNums (fiveBytes y) ++ bodyText label ps) = fiveBytes x ++ (fiveBytes y ++ bytesOf (bodyText label ps)) := by
    rw [bytesOf_append, bytesOf_append, bytesOf_strOfNums (byteList_five x), bytesOf_strOfNums (byteList_five y), List.append_assoc]
  generalize hs : strOfNums (fiveBytes x) ++ strOfNums (fiveBytes y) ++ bodyText label ps = s at hb ⊢
  have h10 : 10 ≤ s.size := by rw [size_bytesOf, hb]; simp only [List.length_append, five_length]; omega
  have e0 : firstFive s = x := by rw [firstFive, hb, List.take_left' (five_length x), numOf_five hx]
  have e1 : firstFive (s.extract 5 s.size) = y := by
    rw [firstFive, bytesOf_extract, List.take_of_length_le (l := bytesOf s) (by rw [bytesOf_length]; exact Nat.le_refl _), hb, List.drop_left' (five_length x), List.take_left' (five_length y), numOf_five hy]
  have e2 : s.extract 10 s.size = bodyText label ps := by
    apply bytesOf_inj
    rw [bytesOf_extract, List.take_of_length_le (by rw [bytesOf_length]; exact Nat.le_refl _), hb, show (10 : Nat) = 5 + 5 from rfl, ← List.drop_drop, List.drop_left' (five_length x), List.drop_left' (five_length y)]
  rw [readE, e0, e1, e2, parseT_back hl (checkN_ok h).2.2 hg hk, if_pos ⟨h10, rfl, h1⟩]
theorem entryNum_back {id : Int} {s : ByteArray} {l : List SPrp} {e : SEntry} (he : e ∈ entries id s l) : entryNum e.f1 = id ∧ e.f1.size = e.f1.size := by
  obtain ⟨hi, x, hx⟩ := entries_id he
  refine ⟨?_, rfl⟩
  have hb : bytesOf e.f1 = bytesOf x ++ fiveBytes id := by rw [hx, bytesOf_append, bytesOf_strOfNums (byteList_five id)]
  have hz : e.f1.size = x.size + 5 := by rw [size_bytesOf, hb, List.length_append, five_length, bytesOf_length]
  rw [entryNum, if_neg (by omega), firstFive, bytesOf_extract, List.take_of_length_le (l := bytesOf e.f1) (by rw [bytesOf_length]; exact Nat.le_refl _), hb, hz, Nat.add_sub_cancel, List.drop_left' (bytesOf_length x), List.take_of_length_le (by rw [five_length]; exact Nat.le_refl _), numOf_five hi]
end Go.Proofs.Ytonbnlfijmapfaa
/- cobweblaw21.WebApart. -/
namespace Go.Proofs.Ytonbnlfijmapfaa
open Go.RowKit Go.Shelf Go.Proofs.YtonbnlfijmapfaaW.PrintWords
set_option linter.unusedVariables false
set_option linter.unusedSimpArgs false

/-- What is told of properties that came in. -/
structure PropsIn (w : World) (A : Option Addr) (c : Nat) (l : List SPrp) : Prop where
  row : kPrp.C w A l.length l
  rng : ranged l
  cap : l.length ≤ c
/-- The variables of WebApart that lie in memory. -/
def Bx (w0 : World) (v0 v1 v2 u0 u1 u2 t0 t1 : Value) (W : World) : Prop :=
  W.cell? ⟨w0.heap.size, 0, none⟩ = some v0 ∧ W.cell? ⟨w0.heap.size, 1, none⟩ = some v1 ∧ W.cell? ⟨w0.heap.size, 2, none⟩ = some v2 ∧ W.cell? ⟨w0.heap.size + 1, 0, none⟩ = some u0 ∧ W.cell? ⟨w0.heap.size + 1, 1, none⟩ = some u1 ∧ W.cell? ⟨w0.heap.size + 1, 2, none⟩ = some u2 ∧ W.cell? ⟨w0.heap.size + 2, 0, none⟩ = some t0 ∧ W.cell? ⟨w0.heap.size + 2, 1, none⟩ = some t1 ∧ Below w0.heap.size w0 W
theorem Bx.keep {w0 W W2 : World} {v0 v1 v2 u0 u1 u2 t0 t1 : Value} (hb : Below W.heap.size W W2) (h : Bx w0 v0 v1 v2 u0 u1 u2 t0 t1 W) : Bx w0 v0 v1 v2 u0 u1 u2 t0 t1 W2 := keepB8 hb h
theorem Bx.low {w0 W : World} {v0 v1 v2 u0 u1 u2 t0 t1 : Value} (h : Bx w0 v0 v1 v2 u0 u1 u2 t0 t1 W) : Below w0.heap.size w0 W := h.2.2.2.2.2.2.2.2
theorem Bx.new (w0 : World) (v0 v1 v2 u0 u1 u2 t0 t1 : Value) (a b c : Nat) : Bx w0 v0 v1 v2 u0 u1 u2 t0 t1 (((w0.alloc (.cells #[v0, v1, v2] a)).alloc (.cells #[u0, u1, u2] b)).alloc (.cells #[t0, t1] c)) := by
  have k1 := blk_alloc (blk_alloc (blk_new w0 #[v0, v1, v2] a) (.cells #[u0, u1, u2] b)) (.cells #[t0, t1] c)
  have k2 := blk_alloc (blk_new (w0.alloc (.cells #[v0, v1, v2] a)) #[u0, u1, u2] b) (.cells #[t0, t1] c)
  have k3 := blk_new ((w0.alloc (.cells #[v0, v1, v2] a)).alloc (.cells #[u0, u1, u2] b)) #[t0, t1] c
  have e2 : (w0.alloc (.cells #[v0, v1, v2] a)).heap.size = w0.heap.size + 1 := by simp
  have e3 : ((w0.alloc (.cells #[v0, v1, v2] a)).alloc (.cells #[u0, u1, u2] b)).heap.size = w0.heap.size + 2 := by simp
  rw [e2] at k2
  rw [e3] at k3
  exact ⟨blk_cell k1 0, blk_cell k1 1, blk_cell k1 2, blk_cell k2 0, blk_cell k2 1, blk_cell k2 2, blk_cell k3 0, blk_cell k3 1, keepB0 (below_al _ _) (keepB0 (below_al _ _) (below_al _ _))⟩

set_option maxRecDepth 100000 in
set_option maxHeartbeats 8000000 in
theorem law21_WebApart_no (i1 i2 x y : Int) (s1 s2 : ByteArray) (A1 A2 : Option Addr) (c1 c2 : Nat) (l1 l2 : List SPrp) (w : World) (h1 : PropsIn w A1 c1 l1) (h2 : PropsIn w A2 c2 l2) (hno : lawProps l1 = false ∨ lawProps l1 = true ∧ lawProps l2 = false ∨ lawProps l1 = true ∧ lawProps l2 = true ∧ (s1.size > 200 ∨ s1.size ≤ 200 ∧ s2.size > 200)) :
    Calls Try.prog 3 #[.agg #[.int .i64 i1, .string s1, .slice A1 l1.length c1], .agg #[.int .i64 i2, .string s2, .slice A2 l2.length c2], .agg #[.int .i64 x, .int .i64 y]] w fun e w' => e = .returned (.bool true) ∧ Below w.heap.size w w' := by
  have H1 := Lib.hid h1; clear h1
  have H2 := Lib.hid h2; clear h2
  have hfirst : True := trivial
  have hfirst2 : True := trivial
  have HN := Lib.hid (Bx.new w (.int .i64 i1) (.string s1) (.slice A1 l1.length c1) (.int .i64 i2) (.string s2) (.slice A2 l2.length c2) (.int .i64 x) (.int .i64 y) 24 24 25)
  rcases hno with hn | ⟨hn1, hn⟩ | ⟨hn1, hn2, hn | ⟨hn3, hn⟩⟩
  · go_enter Try.func3, Try.ntmps3
    go_wp2_with (first
      | (go_at_call 15; clear hfirst; refine (law21_awake_calls _).mono ?_; rintro e wa ⟨rfl, hba⟩; have HB := Lib.hid (HN.out.keep hba); clear hba HN; obtain ⟨x0, x1, x2, y0, y1, y2, z0, z1, -⟩ := HB.out)
      | (go_at_call 16; clear hfirst2; refine (law21_props_calls A1 c1 l1 _ (Kd.C_below H1.out.row HB.out.low)).mono ?_; rw [hn]; rintro e wp ⟨rfl, rfl⟩)
      | (go_at_call 15; refine (law21_awake_calls _).mono ?_; rintro e wb ⟨rfl, hbb⟩))
    go_ret
    exact ⟨rfl, keepB0 hbb HB.out.low⟩
  · go_enter Try.func3, Try.ntmps3
    go_wp2_with (first
      | (go_at_call 15; clear hfirst; refine (law21_awake_calls _).mono ?_; rintro e wa ⟨rfl, hba⟩; have HB := Lib.hid (HN.out.keep hba); clear hba HN; obtain ⟨x0, x1, x2, y0, y1, y2, z0, z1, -⟩ := HB.out)
      | (go_at_call 16; clear hfirst2; refine (law21_props_calls A1 c1 l1 _ (Kd.C_below H1.out.row HB.out.low)).mono ?_; rw [hn1]; rintro e wp ⟨rfl, rfl⟩)
      | (go_at_call 16; refine (law21_props_calls A2 c2 l2 _ (Kd.C_below H2.out.row HB.out.low)).mono ?_; rw [hn]; rintro e wp ⟨rfl, rfl⟩)
      | (go_at_call 15; refine (law21_awake_calls _).mono ?_; rintro e wb ⟨rfl, hbb⟩))
    go_ret
    exact ⟨rfl, keepB0 hbb HB.out.low⟩
  · have hn' : (200 : Int) < (s1.size : Int) := by omega
    go_enter Try.func3, Try.ntmps3
    go_wp2_with (first
      | (go_at_call 15; clear hfirst; refine (law21_awake_calls _).mono ?_; rintro e wa ⟨rfl, hba⟩; have HB := Lib.hid (HN.out.keep hba); clear hba HN; obtain ⟨x0, x1, x2, y0, y1, y2, z0, z1, -⟩ := HB.out)
      | (go_at_call 16; clear hfirst2; refine (law21_props_calls A1 c1 l1 _ (Kd.C_below H1.out.row HB.out.low)).mono ?_; rw [hn1]; rintro e wp ⟨rfl, rfl⟩)
      | (go_at_call 16; refine (law21_props_calls A2 c2 l2 _ (Kd.C_below H2.out.row HB.out.low)).mono ?_; rw [hn2]; rintro e wp ⟨rfl, rfl⟩)
      | (go_at_call 15; refine (law21_awake_calls _).mono ?_; rintro e wb ⟨rfl, hbb⟩))
    go_ret
    exact ⟨rfl, keepB0 hbb HB.out.low⟩
  · have hn' : (200 : Int) < (s2.size : Int) := by omega
    have hn4 : ¬ (200 : Int) < (s1.size : Int) := by omega
    go_enter Try.func3, Try.ntmps3
    go_wp2_with (first
      | (go_at_call 15; clear hfirst; refine (law21_awake_calls _).mono ?_; rintro e wa ⟨rfl, hba⟩; have HB := Lib.hid (HN.out.keep hba); clear hba HN; obtain ⟨x0, x1, x2, y0, y1, y2, z0, z1, -⟩ := HB.out)
      | (go_at_call 16; clear hfirst2; refine (law21_props_calls A1 c1 l1 _ (Kd.C_below H1.out.row HB.out.low)).mono ?_; rw [hn1]; rintro e wp ⟨rfl, rfl⟩)
      | (go_at_call 16; refine (law21_props_calls A2 c2 l2 _ (Kd.C_below H2.out.row HB.out.low)).mono ?_; rw [hn2]; rintro e wp ⟨rfl, rfl⟩)
      | (go_at_call 15; refine (law21_awake_calls _).mono ?_; rintro e wb ⟨rfl, hbb⟩))
    go_ret
    exact ⟨rfl, keepB0 hbb HB.out.low⟩
end Go.Proofs.Ytonbnlfijmapfaa
/- cobwebref16.SameE. -/
namespace Go.Proofs.Ytonbnlfijmapfaa
open Go.RowKit Go.Shelf Go.Proofs.YtonbnlfijmapfaaW.PrintWords
set_option linter.unusedVariables false
set_option linter.unusedSimpArgs false

set_option maxRecDepth 100000 in
set_option maxHeartbeats 4000000 in
theorem ref16_SameE_calls (A B : Option Addr) (c d : Nat) (a b : List SEdg) (w : World) (ha : kEdg.C w A a.length a) (hb : kEdg.C w B b.length b) :
    Calls Try.prog 40 #[.slice A a.length c, .slice B b.length d] w fun e w' => e = .returned (.bool (decide (a = b))) ∧ Quiet w w' := by
  have hm := Kd.C_max ha
  have HX := Lib.hid ha; clear ha
  have HY := Lib.hid hb; clear hb
  go_enter Try.func40, Try.ntmps40
  by_cases hl : a.length = b.length
  · have hl2 : ((a.length : Int) = (b.length : Int)) := by omega
    go_wp2
    go_loopw [5] (fun v5 wr => ∃ (k : Nat), k ≤ a.length ∧ v5 = .int .i64 k ∧ Hid (Quiet w wr) ∧ Hid (a.take k = b.take k)) (fun v5 _ => a.length - (intOf v5).toNat)
    case atStart => exact ⟨0, by omega, rfl, Lib.hid (quiet_refl _), Lib.hid rfl⟩
    case round =>
      obtain ⟨k, hk, rfl, HB, HT⟩ := hrel
      by_cases hlt : k < a.length
      · have hlt2 : (k : Int) < (a.length : Int) := by omega
        have hlt3 : (k : Int) < (b.length : Int) := by omega
        obtain ⟨ad, A2, c2, rfl, g0, g1, g2, g3, g4, _, hA⟩ := at_Edg (Kd.C_below HX.out (quiet_below HB.out _)) (k : Int) (by omega) (by omega)
        obtain ⟨bd, B2, d2, rfl, f0, f1, f2, f3, f4, _, hB⟩ := at_Edg (Kd.C_below HY.out (quiet_below HB.out _)) (k : Int) (by omega) (by omega)
        simp only [Int.toNat_natCast, rd_Edg] at g0 g1 g2 g3 g4 f0 f1 f2 f3 f4 hA hB
        have HE := Lib.hid (fun e => take_step a b k zEdg hlt (by omega) HT.out e)
        have HN := Lib.hid (fun e => take_unlike (a := a) (b := b) (k := k) (z := zEdg) e)
        cases hy : a.getD k zEdg with
        | mk y0 y1 y2 y3 y4 =>
        cases hx : b.getD k zEdg with
        | mk x0 x1 x2 x3 x4 =>
        rw [hy] at g0 g1 g2 g3 g4 hA HE HN
        rw [hx] at f0 f1 f2 f3 f4 hB HE HN
        clear hx hy
        simp only at g0 g1 g2 g3 g4 f0 f1 f2 f3 f4 hA hB
        by_cases h0 : y0 = x0
        · subst h0
          by_cases h1 : y1 = x1
          · subst h1
            by_cases h2 : y2 = x2
            · subst h2
              by_cases h3 : y3 = x3
              · subst h3
                have q := fun w2 hb => ref03_Same_calls A2 B2 c2 d2 y4 x4 w2 (Kd.C_below hA hb) (Kd.C_below hB hb)
                have HQ := Lib.hid q; clear q
                cases h4 : decide (y4 = x4) with
                | true =>
                  rw [h4] at HQ
                  go_wp2_with fail
                  go_big_quiet ((go_at_call 70; exact Calls.quiet_of (HQ.out _ (pw_below_drewN (Below.refl _ _) _))))
                  go_wp2
                  go_roundw
                  case rel => exact ⟨k + 1, by omega, by go_num, Lib.hid (quiet_step HB.out _), Lib.hid (HE.out (by rw [of_decide_eq_true h4]))⟩
                  case measure => simp [intOf]; omega
                | false =>
                  rw [h4] at HQ
                  go_wp2_with fail
                  go_big_quiet ((go_at_call 70; exact Calls.quiet_of (HQ.out _ (pw_below_drewN (Below.refl _ _) _))))
                  go_wp2
                  go_ret
                  exact ⟨ret_bool (Eq.symm (decide_eq_false (HN.out (by simp [of_decide_eq_false h4])))), quiet_step HB.out _⟩
              · have h3' : (y3 != x3) = true := by simp [h3]
                go_wp2_with fail
                go_big_quiet (fail)
                go_wp2
                go_ret
                exact ⟨ret_bool (Eq.symm (decide_eq_false (HN.out (by simp [h3])))), quiet_step HB.out _⟩
            · have h2' : (y2 != x2) = true := by simp [h2]
              go_wp2_with fail
              go_big_quiet (fail)
              go_wp2
              go_ret
              exact ⟨ret_bool (Eq.symm (decide_eq_false (HN.out (by simp [h2])))), quiet_step HB.out _⟩
          · have h1' : (y1.toList == x1.toList) = false := by rw [toList_eq]; exact decide_eq_false h1
            go_wp2_with fail
            go_big_quiet (fail)
            go_wp2
            go_ret
            exact ⟨ret_bool (Eq.symm (decide_eq_false (HN.out (by simp [h1])))), quiet_step HB.out _⟩
        · have h0' : (y0 != x0) = true := by simp [h0]
          go_wp2_with fail
          go_big_quiet (fail)
          go_wp2
          go_ret
          exact ⟨ret_bool (Eq.symm (decide_eq_false (HN.out (by simp [h0])))), quiet_step HB.out _⟩
      · have hlt2 : ¬ (k : Int) < (b.length : Int) := by omega
        go_wp2
        go_ret
        refine ⟨ret_bool (Eq.symm (decide_eq_true ?_)), HB.out⟩
        have := HT.out
        rwa [List.take_of_length_le (by omega), List.take_of_length_le (by omega)] at this
  · have hl2 : ¬ ((a.length : Int) = (b.length : Int)) := by omega
    go_wp2
    go_ret
    exact ⟨ret_bool (Eq.symm (decide_eq_false (fun h => hl (by rw [h])))), quiet_refl _⟩
end Go.Proofs.Ytonbnlfijmapfaa
/- cobwebref21.Entries. -/
namespace Go.Proofs.Ytonbnlfijmapfaa
open Go.RowKit Go.Shelf Go.Proofs.YtonbnlfijmapfaaW.PrintWords
set_option linter.unusedVariables false
set_option linter.unusedSimpArgs false

theorem entries_lit (id : Int) (s : ByteArray) (l : List SPrp) (h : checkN s l [id] = 0) : entries id s l = ⟨⟨#[76]⟩ ++ s, strOfNums (fiveBytes id)⟩ :: l.map (propEntry id s) := by rw [entries, if_pos h]; rfl
theorem propEntry_lit (id : Int) (s k : ByteArray) (v0 v1 : Int) (v2 : ByteArray) : propEntry id s ⟨k, ⟨v0, v1, v2⟩⟩ = ⟨⟨#[80]⟩ ++ s ++ ⟨#[32]⟩ ++ k, strOfNums (valBytes v0 v1 v2) ++ strOfNums (fiveBytes id)⟩ := rfl

set_option maxRecDepth 100000 in
set_option maxHeartbeats 4000000 in
theorem ref21_Entries_calls (id : Int) (s : ByteArray) (A : Option Addr) (c : Nat) (l : List SPrp) (w : World) (hs : s.size ≤ 100000) (h : kPrp.C w A l.length l) (hf : fits l) (hg : ranged l) :
    Calls Try.prog 41 #[.agg #[.int .i64 id, .string s, .slice A l.length c]] w fun e w' => ∃ v, e = .returned v ∧ kEntry.R 39 w' w.heap.size (fun _ => True) v (entries id s l) ∧ Below w.heap.size w w' := by
  have HX := Lib.hid h; clear h
  have HF := Lib.hid hf; clear hf
  have HG := Lib.hid hg; clear hg
  by_cases hc : checkN s l [id] = 0
  · have hr := (checkN_ok hc).2.2
    have hid2 : 0 ≤ id ∧ id < 1099511627776 := by simpa [idOk] using (checkN_ok hc).1
    obtain ⟨hok, h16⟩ := propsRight_ok hr
    have HO := Lib.hid hok; clear hok
    have HE := Lib.hid (entries_lit id s l hc)
    have z1 := five_size id
    go_enter Try.func41, Try.ntmps41
    go_wp2_with (
      (go_at_call 36; refine (ref16_Check_calls _ _ _ _ 1 l [id] _ hs ?hP HF.out ?hI).mono ?_; (case hP => exact Kd.C_below HX.out (keepB0 (below_al _ _) (below_al w _))); (case hI => exact C_boxg (Kd.int .i64) (by decide) _ _ (by simp) id #[.int .i64 id] _ rfl); rw [hc]; rintro e w1 ⟨rfl, hb1⟩; have K1 := Lib.hid (blk_below hb1 (blk_alloc (blk_new w #[.int .i64 id, .string s, .slice A l.length c] 24) _)); have HB1 := Lib.hid (keepB0 hb1 (keepB0 (below_al _ _) (below_al w _))); clear hb1))
    refine wp_region_held_drew (S := (fun w' => Blk w' w.heap.size #[.int .i64 id, .string s, .slice A l.length c] 24 ∧ Below w.heap.size w w')) (by kernel_rfl) ?hS101 (fun hH0 => ?_)
    case hS101 => exact ⟨blk_drew K1.out, below_drew HB1.out⟩
    refine takeY (oi := { dst := some 15, op := Op.fieldAddr 24 (Operand.tmp 1) 1, type := 0, pos := "ref.go:38", after := #[], guard := none }) 0 (some 15) (v := ?v0_102) rfl rfl (by kernel_rfl) (by kernel_rfl) (by kernel_rfl) (fun _ _ _ h => h) (by kernel_rfl) ?hy102 hH0 ?_
    case hy102 => (intro w_ hSw; (try dsimp only at hSw); go_simp; (first | done | with_reducible rfl | rw [if_neg (by omega)]))
    simp only [Act.put, List.setIfInBounds_toArray, List.set_cons_zero, List.set_cons_succ]
    refine takeY (oi := { dst := some 16, op := Op.load 9 (Operand.tmp 15), type := 9, pos := "ref.go:38", after := #[{ on := 0, ground := Ground.data }], guard := none }) 1 (some 16) (v := ?v1_103) rfl rfl (by kernel_rfl) (by kernel_rfl) (by kernel_rfl) (fun _ _ _ h => h) (by kernel_rfl) ?hy103 hH0 ?_
    case hy103 => (intro w_ hSw; (try dsimp only at hSw); (have hc := blk_cell hSw.1 1; go_simp; (first | done | with_reducible rfl)))
    simp only [Act.put, List.setIfInBounds_toArray, List.set_cons_zero, List.set_cons_succ]
    refine takeY (oi := { dst := some 17, op := Op.binOp BinOp.add 9 (Operand.const (Value.string { data := #[76] })) (Operand.tmp 16) 9, type := 9, pos := "ref.go:38", after := #[{ on := 1, ground := Ground.data }], guard := none }) 2 (some 17) (v := ?v2_104) rfl rfl (by kernel_rfl) (by kernel_rfl) (by kernel_rfl) (fun _ _ _ h => h) (by kernel_rfl) ?hy104 hH0 ?_
    case hy104 => (intro w_ hSw; (try dsimp only at hSw); go_simp; (first | done | with_reducible rfl | rw [if_neg (by omega)]))
    simp only [Act.put, List.setIfInBounds_toArray, List.set_cons_zero, List.set_cons_succ]
    refine takeY (oi := { dst := some 18, op := Op.fieldAddr 24 (Operand.tmp 1) 0, type := 0, pos := "ref.go:38", after := #[], guard := none }) 3 (some 18) (v := ?v3_105) rfl rfl (by kernel_rfl) (by kernel_rfl) (by kernel_rfl) (fun _ _ _ h => h) (by kernel_rfl) ?hy105 hH0 ?_
    case hy105 => (intro w_ hSw; (try dsimp only at hSw); go_simp; (first | done | with_reducible rfl | rw [if_neg (by omega)]))
    simp only [Act.put, List.setIfInBounds_toArray, List.set_cons_zero, List.set_cons_succ]
    refine takeY (oi := { dst := some 19, op := Op.load 3 (Operand.tmp 18), type := 3, pos := "ref.go:38", after := #[{ on := 3, ground := Ground.data }], guard := none }) 4 (some 19) (v := ?v4_106) rfl rfl (by kernel_rfl) (by kernel_rfl) (by kernel_rfl) (fun _ _ _ h => h) (by kernel_rfl) ?hy106 hH0 ?_
    case hy106 => (intro w_ hSw; (try dsimp only at hSw); (have hc := blk_cell hSw.1 0; go_simp; (first | done | with_reducible rfl)))
    simp only [Act.put, List.setIfInBounds_toArray, List.set_cons_zero, List.set_cons_succ]
    refine wpAnyH_ready (rs := [5]) (by kernel_rfl) (by simp) ?_
    refine AllReadyH.cons (o := { dst := some 20, op := Op.call { callee := Callee.value (Operand.func 25), args := #[Operand.tmp 19], argTypes := #[3] }, type := 9, pos := "ref.go:38", after := #[{ on := 4, ground := Ground.data }], guard := none }) rfl (fun K1 hK1 => ?_) AllReadyH.nil
    go_simp; refine (ref21_Five_calls _ _ hid2.1 hid2.2).mono ?_; rintro e w3 ⟨rfl, hb3⟩; have hB3 := Nat.le_trans hH0.2.size hb3.size
    refine hK1.out _ _ ?hS107 (fun hH1 => ?_)
    case hS107 => ((try dsimp only); (exact ⟨blk_below hb3 hH0.1, keepB0 hb3 hH0.2⟩))
    clear hK1 K1
    (try clear hH0)
    (try simp only [Act.put, List.setIfInBounds_toArray, List.set_cons_zero, List.set_cons_succ])
    refine takeY (oi := { dst := some 21, op := Op.build 39 #[(0, Operand.tmp 17), (1, Operand.tmp 20)], type := 39, pos := "ref.go:38", after := #[{ on := 2, ground := Ground.data }, { on := 5, ground := Ground.data }], guard := none }) 6 (some 21) (v := ?v6_108) rfl rfl (by kernel_rfl) (by kernel_rfl) (by kernel_rfl) (fun _ _ _ h => h) (by kernel_rfl) ?hy108 hH1 ?_
    case hy108 => (intro w_ hSw; (try dsimp only at hSw); go_simp; (first | done | with_reducible rfl | rw [if_neg (by omega)]))
    simp only [Act.put, List.setIfInBounds_toArray, List.set_cons_zero, List.set_cons_succ]
    refine wpAnyH_ready (rs := [7]) (by kernel_rfl) (by simp) ?_
    refine AllReadyH.cons (o := { dst := some 22, op := Op.buildSlice 36 1 #[(0, Operand.tmp 21)], type := 36, pos := "ref.go:38", after := #[{ on := 6, ground := Ground.data }], guard := none }) rfl (fun K2 hK2 => ?_) AllReadyH.nil
    go_simp
    refine hK2.out _ _ ?hS109 (fun hH2 => ?_)
    case hS109 => ((try dsimp only); (exact ⟨blk_alloc hH1.1 _, keepB0 (below_al _ _) hH1.2⟩))
    clear hK2 K2
    (try clear hH1)
    (try simp only [Act.put, List.setIfInBounds_toArray, List.set_cons_zero, List.set_cons_succ])
    refine takeY (oi := { dst := some 3, op := Op.assign (Operand.tmp 22), type := 36, pos := "ref.go:38", after := #[{ on := 7, ground := Ground.data }, { on := 5, ground := Ground.chain }, { on := 0, ground := Ground.phase }, { on := 1, ground := Ground.phase }, { on := 2, ground := Ground.phase }, { on := 3, ground := Ground.phase }, { on := 4, ground := Ground.phase }, { on := 5, ground := Ground.phase }, { on := 6, ground := Ground.phase }, { on := 7, ground := Ground.phase }], guard := none }) 8 (some 3) (v := ?v8_110) rfl rfl (by kernel_rfl) (by kernel_rfl) (by kernel_rfl) (fun _ _ _ h => h) (by kernel_rfl) ?hy110 hH2 ?_
    case hy110 => (intro w_ hSw; (try dsimp only at hSw); go_simp; (first | done | with_reducible rfl | rw [if_neg (by omega)]))
    simp only [Act.put, List.setIfInBounds_toArray, List.set_cons_zero, List.set_cons_succ]
    refine wpAnyH_done (by kernel_rfl) ?_ _
    have hEnd := hH2
    clear hH2
    have HB3 := Lib.hid hEnd.2
    have K3 := Lib.hid hEnd.1
    have c2 : (w3.alloc (.cells #[.string (⟨#[76]⟩ ++ s), .string (strOfNums (fiveBytes id))] 39)).cell? ⟨w.heap.size, 2, none⟩ = some (.slice A l.length c) := blk_cell K3.out 2
    have HR0 := Lib.hid (R_boxd kEntry (W := w3) (T := 39) ⟨⟨#[76]⟩ ++ s, strOfNums (fiveBytes id)⟩ #[.string (⟨#[76]⟩ ++ s), .string (strOfNums (fiveBytes id))] (kEntry_mkM _ _ _ _) hB3)
    go_wp2
    go_loopw [3, 4] (fun v3 v28 wr => ∃ (k : Nat), k ≤ l.length ∧ v28 = .int .i64 k ∧ Hid (Below w.heap.size w wr) ∧ Hid (Blk wr w.heap.size #[.int .i64 id, .string s, .slice A l.length c] 24) ∧ Hid (kEntry.R 39 wr w.heap.size (fun _ => True) v3 (⟨⟨#[76]⟩ ++ s, strOfNums (fiveBytes id)⟩ :: (l.take k).map (propEntry id s)))) (fun _ v28 _ => l.length - (intOf v28).toNat)
    case atStart => exact ⟨0, by omega, rfl, HB3, K3, HR0⟩
    case round =>
      obtain ⟨k, hk, rfl, HB, HK, HR⟩ := hrel
      have c3 : wr.cell? ⟨w.heap.size, 2, none⟩ = some (.slice A l.length c) := blk_cell HK.out 2
      by_cases hlt : k < l.length
      · have hlt2 : (k : Int) < (l.length : Int) := by omega
        have hmem : l.getD k zPrp ∈ l := by simp [List.getD_eq_getElem?_getD, List.getElem?_eq_getElem hlt]
        have hsz := HF.out _ hmem
        have hrg := HG.out _ hmem
        have hvo := (HO.out _ hmem).2
        have HT := Lib.hid (map_take (propEntry id s) l k zPrp hlt)
        have hL2 := List.length_take_le k l
        obtain ⟨ad, rfl, g0, g1, g2, g3⟩ := at_Prp (Kd.C_below HX.out HB.out) (k : Int) (by omega) (by omega)
        simp only [Int.toNat_natCast, rd_Prp] at g0 g1 g2 g3
        cases hy : l.getD k zPrp with
        | mk y0 yv =>
        cases yv with
        | mk y1 y2 y3 =>
        rw [hy] at g0 g1 g2 g3 hsz hrg hvo HT
        clear hy hmem
        simp only at g0 g1 g2 g3 hsz hrg hvo
        rw [propEntry_lit] at HT
        have hvl := valBytes_length (k := y1) (n := y2) (s := y3) hvo
        have hvz := strOfNums_size (valBytes y1 y2 y3)
        have HB0 := Lib.hid (below_drew (keepB0 (below_al wr (.cells #[.string y0, .int .i64 y1, .int .i64 y2, .string y3] 117)) HB.out))
        have HK7 := Lib.hid (blk_drew (blk_alloc HK.out (.cells #[.string y0, .int .i64 y1, .int .i64 y2, .string y3] 117)))
        have HP7 := Lib.hid (blk_drew (blk_new wr #[.string y0, .int .i64 y1, .int .i64 y2, .string y3] 117))
        have HR4 := Lib.hid (Kd.R_drew (Kd.R_alloc HR.out (.cells #[.string y0, .int .i64 y1, .int .i64 y2, .string y3] 117)))
        have hB4 := Lib.hid HB0.out.size
        go_wp2_with fail
        refine wp_region_held_drew (S := (fun w' => Blk w' w.heap.size #[.int .i64 id, .string s, .slice (some ad) l.length c] 24 ∧ Blk w' wr.heap.size #[.string y0, .int .i64 y1, .int .i64 y2, .string y3] 117 ∧ Below w.heap.size w w')) (by kernel_rfl) ?hS201 (fun hH0 => ?_)
        case hS201 => exact ⟨HK7.out, HP7.out, HB0.out⟩
        refine takeY (oi := { dst := some 35, op := Op.move (Operand.tmp 3), type := 36, pos := "ref.go:41", after := #[], guard := none }) 0 (some 35) (v := ?v0_202) rfl rfl (by kernel_rfl) (by kernel_rfl) (by kernel_rfl) (fun _ _ _ h => h) (by kernel_rfl) ?hy202 hH0 ?_
        case hy202 => (intro w_ hSw; (try dsimp only at hSw); go_simp; (first | done | with_reducible rfl | rw [if_neg (by omega)]))
        simp only [Act.put, List.setIfInBounds_toArray, List.set_cons_zero, List.set_cons_succ]
        refine takeY (oi := { dst := some 36, op := Op.fieldAddr 24 (Operand.tmp 1) 1, type := 0, pos := "ref.go:41", after := #[], guard := none }) 1 (some 36) (v := ?v1_203) rfl rfl (by kernel_rfl) (by kernel_rfl) (by kernel_rfl) (fun _ _ _ h => h) (by kernel_rfl) ?hy203 hH0 ?_
        case hy203 => (intro w_ hSw; (try dsimp only at hSw); go_simp; (first | done | with_reducible rfl | rw [if_neg (by omega)]))
        simp only [Act.put, List.setIfInBounds_toArray, List.set_cons_zero, List.set_cons_succ]
        refine takeY (oi := { dst := some 37, op := Op.load 9 (Operand.tmp 36), type := 9, pos := "ref.go:41", after := #[{ on := 1, ground := Ground.data }], guard := none }) 2 (some 37) (v := ?v2_204) rfl rfl (by kernel_rfl) (by kernel_rfl) (by kernel_rfl) (fun _ _ _ h => h) (by kernel_rfl) ?hy204 hH0 ?_
        case hy204 => (intro w_ hSw; (try dsimp only at hSw); (have hc := blk_cell hSw.1 1; go_simp; (first | done | with_reducible rfl)))
        simp only [Act.put, List.setIfInBounds_toArray, List.set_cons_zero, List.set_cons_succ]
        refine takeY (oi := { dst := some 38, op := Op.binOp BinOp.add 9 (Operand.const (Value.string { data := #[80] })) (Operand.tmp 37) 9, type := 9, pos := "ref.go:41", after := #[{ on := 2, ground := Ground.data }], guard := none }) 3 (some 38) (v := ?v3_205) rfl rfl (by kernel_rfl) (by kernel_rfl) (by kernel_rfl) (fun _ _ _ h => h) (by kernel_rfl) ?hy205 hH0 ?_
        case hy205 => (intro w_ hSw; (try dsimp only at hSw); go_simp; (first | done | with_reducible rfl | rw [if_neg (by omega)]))
        simp only [Act.put, List.setIfInBounds_toArray, List.set_cons_zero, List.set_cons_succ]
        refine takeY (oi := { dst := some 39, op := Op.binOp BinOp.add 9 (Operand.tmp 38) (Operand.const (Value.string { data := #[32] })) 9, type := 9, pos := "ref.go:41", after := #[{ on := 3, ground := Ground.data }], guard := none }) 4 (some 39) (v := ?v4_206) rfl rfl (by kernel_rfl) (by kernel_rfl) (by kernel_rfl) (fun _ _ _ h => h) (by kernel_rfl) ?hy206 hH0 ?_
        case hy206 => (intro w_ hSw; (try dsimp only at hSw); go_simp; (first | done | with_reducible rfl | rw [if_neg (by omega)]))
        simp only [Act.put, List.setIfInBounds_toArray, List.set_cons_zero, List.set_cons_succ]
        refine takeY (oi := { dst := some 40, op := Op.fieldAddr 117 (Operand.tmp 5) 0, type := 0, pos := "ref.go:41", after := #[], guard := none }) 5 (some 40) (v := ?v5_207) rfl rfl (by kernel_rfl) (by kernel_rfl) (by kernel_rfl) (fun _ _ _ h => h) (by kernel_rfl) ?hy207 hH0 ?_
        case hy207 => (intro w_ hSw; (try dsimp only at hSw); go_simp; (first | done | with_reducible rfl | rw [if_neg (by omega)]))
        simp only [Act.put, List.setIfInBounds_toArray, List.set_cons_zero, List.set_cons_succ]
        refine takeY (oi := { dst := some 41, op := Op.load 9 (Operand.tmp 40), type := 9, pos := "ref.go:41", after := #[{ on := 5, ground := Ground.data }], guard := none }) 6 (some 41) (v := ?v6_208) rfl rfl (by kernel_rfl) (by kernel_rfl) (by kernel_rfl) (fun _ _ _ h => h) (by kernel_rfl) ?hy208 hH0 ?_
        case hy208 => (intro w_ hSw; (try dsimp only at hSw); (have hc := blk_cell hSw.2.1 0; go_simp; (first | done | with_reducible rfl)))
        simp only [Act.put, List.setIfInBounds_toArray, List.set_cons_zero, List.set_cons_succ]
        refine takeY (oi := { dst := some 42, op := Op.binOp BinOp.add 9 (Operand.tmp 39) (Operand.tmp 41) 9, type := 9, pos := "ref.go:41", after := #[{ on := 4, ground := Ground.data }, { on := 6, ground := Ground.data }], guard := none }) 7 (some 42) (v := ?v7_209) rfl rfl (by kernel_rfl) (by kernel_rfl) (by kernel_rfl) (fun _ _ _ h => h) (by kernel_rfl) ?hy209 hH0 ?_
        case hy209 => (intro w_ hSw; (try dsimp only at hSw); go_simp; (first | done | with_reducible rfl | rw [if_neg (by omega)]))
        simp only [Act.put, List.setIfInBounds_toArray, List.set_cons_zero, List.set_cons_succ]
        refine takeY (oi := { dst := some 43, op := Op.fieldAddr 117 (Operand.tmp 5) 1, type := 0, pos := "ref.go:41", after := #[], guard := none }) 8 (some 43) (v := ?v8_210) rfl rfl (by kernel_rfl) (by kernel_rfl) (by kernel_rfl) (fun _ _ _ h => h) (by kernel_rfl) ?hy210 hH0 ?_
        case hy210 => (intro w_ hSw; (try dsimp only at hSw); go_simp; (first | done | with_reducible rfl | rw [if_neg (by omega)]))
        simp only [Act.put, List.setIfInBounds_toArray, List.set_cons_zero, List.set_cons_succ]
        refine takeY (oi := { dst := some 44, op := Op.load 42 (Operand.tmp 43), type := 42, pos := "ref.go:41", after := #[{ on := 8, ground := Ground.data }], guard := none }) 9 (some 44) (v := ?v9_211) rfl rfl (by kernel_rfl) (by kernel_rfl) (by kernel_rfl) (fun _ _ _ h => h) (by kernel_rfl) ?hy211 hH0 ?_
        case hy211 => (intro w_ hSw; (try dsimp only at hSw); (have hc1 := blk_cell hSw.2.1 1; have hc2 := blk_cell hSw.2.1 2; have hc3 := blk_cell hSw.2.1 3; go_simp; (first | done | with_reducible rfl)))
        simp only [Act.put, List.setIfInBounds_toArray, List.set_cons_zero, List.set_cons_succ]
        refine takeY (oi := { dst := some 47, op := Op.fieldAddr 24 (Operand.tmp 1) 0, type := 0, pos := "ref.go:41", after := #[], guard := none }) 12 (some 47) (v := ?v12_212) rfl rfl (by kernel_rfl) (by kernel_rfl) (by kernel_rfl) (fun _ _ _ h => h) (by kernel_rfl) ?hy212 hH0 ?_
        case hy212 => (intro w_ hSw; (try dsimp only at hSw); go_simp; (first | done | with_reducible rfl | rw [if_neg (by omega)]))
        simp only [Act.put, List.setIfInBounds_toArray, List.set_cons_zero, List.set_cons_succ]
        refine takeY (oi := { dst := some 48, op := Op.load 3 (Operand.tmp 47), type := 3, pos := "ref.go:41", after := #[{ on := 12, ground := Ground.data }], guard := none }) 13 (some 48) (v := ?v13_213) rfl rfl (by kernel_rfl) (by kernel_rfl) (by kernel_rfl) (fun _ _ _ h => h) (by kernel_rfl) ?hy213 hH0 ?_
        case hy213 => (intro w_ hSw; (try dsimp only at hSw); (have hc := blk_cell hSw.1 0; go_simp; (first | done | with_reducible rfl)))
        simp only [Act.put, List.setIfInBounds_toArray, List.set_cons_zero, List.set_cons_succ]
        refine wpAnyH_ready (rs := [10]) (by kernel_rfl) (by simp) ?_
        refine AllReadyH.cons (o := { dst := some 45, op := Op.call { callee := Callee.value (Operand.func 23), args := #[Operand.tmp 44], argTypes := #[42] }, type := 46, pos := "ref.go:41", after := #[{ on := 9, ground := Ground.data }], guard := none }) rfl (fun K1 hK1 => ?_) AllReadyH.nil
        go_simp; refine (ref02_Bytes_calls y1 y2 y3 _ hrg.1 hrg.2 hvo).mono ?_; rintro e w7 ⟨v7, rfl, hR7, hb7⟩; have hR8 := Lib.hid (Kd.R_below HR4.out hb7); have q1 := blk_below hb7 hH0.1; have q2 := blk_below hb7 hH0.2.1; have q4 := keepB0 hb7 hH0.2.2
        refine hK1.out _ _ ?hS214 (fun hH1 => ?_)
        case hS214 => ((try dsimp only); (exact ⟨q1, q2, q4⟩))
        clear hK1 K1
        (try clear hH0)
        (try simp only [Act.put, List.setIfInBounds_toArray, List.set_cons_zero, List.set_cons_succ])
        refine wpAnyH_stronger (S2 := (fun w' => (Blk w' w.heap.size #[.int .i64 id, .string s, .slice (some ad) l.length c] 24 ∧ Blk w' wr.heap.size #[.string y0, .int .i64 y1, .int .i64 y2, .string y3] 117 ∧ Below w.heap.size w w') ∧ (Kd.int .u8).R 5 w' (wr.alloc (.cells #[.string y0, .int .i64 y1, .int .i64 y2, .string y3] 117)).heap.size (fun _ => True) v7 (valBytes y1 y2 y3))) (fun w_ h_ => h_.1) _ _ _ _ ?_
        replace hH1 := (And.intro hH1 hR7)
        refine takeY (oi := { dst := some 46, op := Op.convert 46 9 (Operand.tmp 45), type := 9, pos := "ref.go:41", after := #[{ on := 10, ground := Ground.data }], guard := none }) 11 (some 46) (v := ?v11_215) rfl rfl (by kernel_rfl) (by kernel_rfl) (by kernel_rfl) (fun _ _ _ h => h) (by kernel_rfl) ?hy215 hH1 ?_
        case hy215 => (intro w_ hSw; (try dsimp only at hSw); (have hc := str_R hSw.2 (Below.refl _ _); go_simp; (first | done | with_reducible rfl)))
        simp only [Act.put, List.setIfInBounds_toArray, List.set_cons_zero, List.set_cons_succ]
        refine wpAnyH_ready (rs := [14]) (by kernel_rfl) (by simp) ?_
        refine AllReadyH.cons (o := { dst := some 49, op := Op.call { callee := Callee.value (Operand.func 25), args := #[Operand.tmp 48], argTypes := #[3] }, type := 9, pos := "ref.go:41", after := #[{ on := 13, ground := Ground.data }, { on := 10, ground := Ground.chain }], guard := none }) rfl (fun K2 hK2 => ?_) AllReadyH.nil
        go_simp; refine (ref21_Five_calls _ _ hid2.1 hid2.2).mono ?_; rintro e w9 ⟨rfl, hb9⟩; have hR9 := Kd.R_below hR8.out hb9; have hB9 := Nat.le_trans (Nat.le_trans hB4.out hb7.size) hb9.size; have q5 := blk_below hb9 hH1.1.1; have q6 := blk_below hb9 hH1.1.2.1; have q7 := Kd.R_below hH1.2 hb9; have q8 := keepB0 hb9 hH1.1.2.2
        refine hK2.out _ _ ?hS216 (fun hH2 => ?_)
        case hS216 => ((try dsimp only); (exact ⟨⟨q5, q6, q8⟩, q7⟩))
        clear hK2 K2
        (try clear hH1)
        (try simp only [Act.put, List.setIfInBounds_toArray, List.set_cons_zero, List.set_cons_succ])
        refine takeY (oi := { dst := some 50, op := Op.binOp BinOp.add 9 (Operand.tmp 46) (Operand.tmp 49) 9, type := 9, pos := "ref.go:41", after := #[{ on := 11, ground := Ground.data }, { on := 14, ground := Ground.data }], guard := none }) 15 (some 50) (v := ?v15_217) rfl rfl (by kernel_rfl) (by kernel_rfl) (by kernel_rfl) (fun _ _ _ h => h) (by kernel_rfl) ?hy217 hH2 ?_
        case hy217 => (intro w_ hSw; (try dsimp only at hSw); go_simp; (first | done | with_reducible rfl | rw [if_neg (by omega)]))
        simp only [Act.put, List.setIfInBounds_toArray, List.set_cons_zero, List.set_cons_succ]
        refine takeY (oi := { dst := some 51, op := Op.build 39 #[(0, Operand.tmp 42), (1, Operand.tmp 50)], type := 39, pos := "ref.go:41", after := #[{ on := 7, ground := Ground.data }, { on := 15, ground := Ground.data }], guard := none }) 16 (some 51) (v := ?v16_218) rfl rfl (by kernel_rfl) (by kernel_rfl) (by kernel_rfl) (fun _ _ _ h => h) (by kernel_rfl) ?hy218 hH2 ?_
        case hy218 => (intro w_ hSw; (try dsimp only at hSw); go_simp; (first | done | with_reducible rfl | rw [if_neg (by omega)]))
        simp only [Act.put, List.setIfInBounds_toArray, List.set_cons_zero, List.set_cons_succ]
        refine wpAnyH_ready (rs := [17]) (by kernel_rfl) (by simp) ?_
        refine AllReadyH.cons (o := { dst := some 52, op := Op.buildSlice 36 1 #[(0, Operand.tmp 51)], type := 36, pos := "ref.go:41", after := #[{ on := 16, ground := Ground.data }], guard := none }) rfl (fun K3 hK3 => ?_) AllReadyH.nil
        go_simp
        refine hK3.out _ _ ?hS219 (fun hH3 => ?_)
        case hS219 => ((try dsimp only); (exact ⟨⟨blk_alloc hH2.1.1 _, blk_alloc hH2.1.2.1 _, keepB0 (below_al _ _) hH2.1.2.2⟩, Kd.R_alloc hH2.2 _⟩))
        clear hK3 K3
        (try clear hH2)
        (try simp only [Act.put, List.setIfInBounds_toArray, List.set_cons_zero, List.set_cons_succ])
        refine wpAnyH_ready (rs := [18]) (by kernel_rfl) (by simp) ?_
        refine AllReadyH.cons (o := { dst := some 53, op := Op.call { callee := Callee.builtin Builtin.append, args := #[Operand.tmp 35, Operand.tmp 52], argTypes := #[36, 36] }, type := 36, pos := "ref.go:41", after := #[{ on := 0, ground := Ground.data }, { on := 17, ground := Ground.data }, { on := 14, ground := Ground.chain }], guard := none }) rfl (fun K4 hK4 => ?_) AllReadyH.nil
        obtain ⟨v2, w2, hr2, hR2, hb2, hg2, hat2⟩ := run_app_one (ty := 36) hR9 info_Entry Try.underlying36 (kEntry_mkM _ _ _ (⟨⟨#[80]⟩ ++ s ++ ⟨#[32]⟩ ++ y0, strOfNums (valBytes y1 y2 y3) ++ strOfNums (fiveBytes id)⟩ : SEntry)) (fun _ _ => trivial) hB9 (by simp; omega) rfl (by decide) (by decide); refine step_app (by kernel_rfl) rfl rfl rfl hr2 ?_
        refine hK4.out _ _ ?hS220 (fun hH4 => ?_)
        case hS220 => ((try dsimp only); (exact ⟨⟨blk_grown q5 hR9 hg2 (by decide), blk_grown q6 hR9 hg2 (by decide), q8.trans hb2⟩, R_beside q7 rfl hR9 hg2 (by decide)⟩))
        clear hK4 K4
        (try clear hH3)
        (try simp only [Act.put, List.setIfInBounds_toArray, List.set_cons_zero, List.set_cons_succ])
        refine takeY (oi := { dst := some 3, op := Op.assign (Operand.tmp 53), type := 36, pos := "ref.go:41", after := #[{ on := 18, ground := Ground.data }, { on := 18, ground := Ground.chain }, { on := 0, ground := Ground.phase }, { on := 1, ground := Ground.phase }, { on := 2, ground := Ground.phase }, { on := 3, ground := Ground.phase }, { on := 4, ground := Ground.phase }, { on := 5, ground := Ground.phase }, { on := 6, ground := Ground.phase }, { on := 7, ground := Ground.phase }, { on := 8, ground := Ground.phase }, { on := 9, ground := Ground.phase }, { on := 10, ground := Ground.phase }, { on := 11, ground := Ground.phase }, { on := 12, ground := Ground.phase }, { on := 13, ground := Ground.phase }, { on := 14, ground := Ground.phase }, { on := 15, ground := Ground.phase }, { on := 16, ground := Ground.phase }, { on := 17, ground := Ground.phase }, { on := 18, ground := Ground.phase }], guard := none }) 19 (some 3) (v := ?v19_221) rfl rfl (by kernel_rfl) (by kernel_rfl) (by kernel_rfl) (fun _ _ _ h => h) (by kernel_rfl) ?hy221 hH4 ?_
        case hy221 => (intro w_ hSw; (try dsimp only at hSw); go_simp; (first | done | with_reducible rfl | rw [if_neg (by omega)]))
        simp only [Act.put, List.setIfInBounds_toArray, List.set_cons_zero, List.set_cons_succ]
        refine wpAnyH_done (by kernel_rfl) ?_ _
        have hEnd := hH4
        clear hH4
        have HB5 := Lib.hid hEnd.1.2.2
        have HK5 := Lib.hid hEnd.1.1
        have HR5 := Lib.hid hR2
        clear hR2 hg2 hb2 hR9 q7
        go_wp2
        go_roundw
        case rel =>
          refine ⟨k + 1, by omega, by go_num, HB5, HK5, Lib.hid ?_⟩
          have e := HR5.out
          rw [HT.out]
          exact e
        case measure => simp [intOf]; omega
      · have hlt2 : ¬ (k : Int) < (l.length : Int) := by omega
        go_wp2
        go_ret
        refine ⟨_, rfl, ?_, HB.out⟩
        rw [HE.out]
        have := HR.out
        rwa [List.take_of_length_le (by omega)] at this
  · have hE : entries id s l = [] := by rw [entries, if_neg hc]
    go_enter Try.func41, Try.ntmps41
    go_wp2_with (
      (go_at_call 36; refine (ref16_Check_calls _ _ _ _ 1 l [id] _ hs ?hP HF.out ?hI).mono ?_; (case hP => exact Kd.C_below HX.out (keepB0 (below_al _ _) (below_al w _))); (case hI => exact C_boxg (Kd.int .i64) (by decide) _ _ (by simp) id #[.int .i64 id] _ rfl); rintro e w1 ⟨rfl, hb1⟩; have HB1 := Lib.hid (keepB0 hb1 (keepB0 (below_al _ _) (below_al w _))); clear hb1))
    go_ret
    exact ⟨_, rfl, by rw [hE]; exact Kd.R_nil _ _ _ _ _, HB1.out⟩
end Go.Proofs.Ytonbnlfijmapfaa
/- cobweblaw21.WebTexts, where all is not small. -/
namespace Go.Proofs.Ytonbnlfijmapfaa
open Go.RowKit Go.Shelf Go.Proofs.YtonbnlfijmapfaaW.PrintWords
set_option linter.unusedVariables false
set_option linter.unusedSimpArgs false

/-- The variables of WebTexts that lie in memory. -/
def Bt (w0 : World) (v0 v1 v2 u0 u1 u2 u3 u4 : Value) (W : World) : Prop :=
  Blk W w0.heap.size #[v0, v1, v2] 24 ∧ Blk W (w0.heap.size + 1) #[u0, u1, u2, u3, u4] 35 ∧ Below w0.heap.size w0 W
section
variable {w0 W W2 : World} {v0 v1 v2 u0 u1 u2 u3 u4 : Value}
theorem Bt.keep (hb : Below W.heap.size W W2) (h : Bt w0 v0 v1 v2 u0 u1 u2 u3 u4 W) : Bt w0 v0 v1 v2 u0 u1 u2 u3 u4 W2 := ⟨blk_below hb h.1, blk_below hb h.2.1, keepB0 hb h.2.2⟩
theorem Bt.low (h : Bt w0 v0 v1 v2 u0 u1 u2 u3 u4 W) : Below w0.heap.size w0 W := h.2.2
theorem Bt.cells (h : Bt w0 v0 v1 v2 u0 u1 u2 u3 u4 W) : W.cell? ⟨w0.heap.size, 0, none⟩ = some v0 ∧ W.cell? ⟨w0.heap.size, 1, none⟩ = some v1 ∧ W.cell? ⟨w0.heap.size, 2, none⟩ = some v2 ∧
    W.cell? ⟨w0.heap.size + 1, 0, none⟩ = some u0 ∧ W.cell? ⟨w0.heap.size + 1, 1, none⟩ = some u1 ∧ W.cell? ⟨w0.heap.size + 1, 2, none⟩ = some u2 ∧ W.cell? ⟨w0.heap.size + 1, 3, none⟩ = some u3 ∧ W.cell? ⟨w0.heap.size + 1, 4, none⟩ = some u4 :=
  ⟨blk_cell h.1 0, blk_cell h.1 1, blk_cell h.1 2, blk_cell h.2.1 0, blk_cell h.2.1 1, blk_cell h.2.1 2, blk_cell h.2.1 3, blk_cell h.2.1 4⟩
theorem Bt.new (w0 : World) (v0 v1 v2 u0 u1 u2 u3 u4 : Value) : Bt w0 v0 v1 v2 u0 u1 u2 u3 u4 ((w0.alloc (.cells #[v0, v1, v2] 24)).alloc (.cells #[u0, u1, u2, u3, u4] 35)) := by
  have k2 := blk_new (w0.alloc (.cells #[v0, v1, v2] 24)) #[u0, u1, u2, u3, u4] 35
  have e2 : (w0.alloc (.cells #[v0, v1, v2] 24)).heap.size = w0.heap.size + 1 := by simp
  rw [e2] at k2
  exact ⟨blk_alloc (blk_new w0 _ _) _, k2, keepB0 (below_al _ _) (below_al _ _)⟩
end

set_option maxRecDepth 100000 in
set_option maxHeartbeats 8000000 in
theorem law21_WebTexts_no (i1 i2 x y : Int) (s1 s2 s : ByteArray) (A1 A2 : Option Addr) (c1 c2 : Nat) (l1 l2 : List SPrp) (w : World) (h1 : PropsIn w A1 c1 l1) (h2 : PropsIn w A2 c2 l2) (hno : lawProps l1 = false ∨ lawProps l1 = true ∧ (lawProps l2 = false ∨ lawProps l2 = true ∧ (s.size > 2000 ∨ s.size ≤ 2000 ∧ (s1.size > 200 ∨ s1.size ≤ 200 ∧ s2.size > 200)))) :
    Calls Try.prog 6 #[.agg #[.int .i64 i1, .string s1, .slice A1 l1.length c1], .agg #[.int .i64 i2, .string s2, .int .i64 x, .int .i64 y, .slice A2 l2.length c2], .string s] w fun e w' => e = .returned (.bool true) ∧ Below w.heap.size w w' := by
  have H1 := Lib.hid h1; clear h1
  have H2 := Lib.hid h2; clear h2
  have hfirst : True := trivial
  have hfirst2 : True := trivial
  have HN := Lib.hid (Bt.new w (.int .i64 i1) (.string s1) (.slice A1 l1.length c1) (.int .i64 i2) (.string s2) (.int .i64 x) (.int .i64 y) (.slice A2 l2.length c2))
  rcases hno with hn | ⟨hn1, hn | ⟨hn2, hn | ⟨hn3, hn | ⟨hn4, hn⟩⟩⟩⟩
  · go_enter Try.func6, Try.ntmps6
    go_wp2_with (first
      | (go_at_call 15; clear hfirst; refine (law21_awake_calls _).mono ?_; rintro e wa ⟨rfl, hba⟩; have HB := Lib.hid (HN.out.keep hba); clear hba HN; obtain ⟨x0, x1, x2, y0, y1, y2, y3, y4⟩ := HB.out.cells)
      | (go_at_call 16; clear hfirst2; refine (law21_props_calls A1 c1 l1 _ (Kd.C_below H1.out.row HB.out.low)).mono ?_; rw [hn]; rintro e wp ⟨rfl, rfl⟩)
      | (go_at_call 16; refine (law21_props_calls A2 c2 l2 _ (Kd.C_below H2.out.row HB.out.low)).mono ?_; rw [hn]; rintro e wp ⟨rfl, rfl⟩)
      | (go_at_call 15; refine (law21_awake_calls _).mono ?_; rintro e wb ⟨rfl, hbb⟩))
    go_ret
    exact ⟨rfl, keepB0 hbb HB.out.low⟩
  · go_enter Try.func6, Try.ntmps6
    go_wp2_with (first
      | (go_at_call 15; clear hfirst; refine (law21_awake_calls _).mono ?_; rintro e wa ⟨rfl, hba⟩; have HB := Lib.hid (HN.out.keep hba); clear hba HN; obtain ⟨x0, x1, x2, y0, y1, y2, y3, y4⟩ := HB.out.cells)
      | (go_at_call 16; clear hfirst2; refine (law21_props_calls A1 c1 l1 _ (Kd.C_below H1.out.row HB.out.low)).mono ?_; rw [hn1]; rintro e wp ⟨rfl, rfl⟩)
      | (go_at_call 16; refine (law21_props_calls A2 c2 l2 _ (Kd.C_below H2.out.row HB.out.low)).mono ?_; rw [hn]; rintro e wp ⟨rfl, rfl⟩)
      | (go_at_call 15; refine (law21_awake_calls _).mono ?_; rintro e wb ⟨rfl, hbb⟩))
    go_ret
    exact ⟨rfl, keepB0 hbb HB.out.low⟩
  · have hn' : (2000 : Int) < (s.size : Int) := by omega
    go_enter Try.func6, Try.ntmps6
    go_wp2_with (first
      | (go_at_call 15; clear hfirst; refine (law21_awake_calls _).mono ?_; rintro e wa ⟨rfl, hba⟩; have HB := Lib.hid (HN.out.keep hba); clear hba HN; obtain ⟨x0, x1, x2, y0, y1, y2, y3, y4⟩ := HB.out.cells)
      | (go_at_call 16; clear hfirst2; refine (law21_props_calls A1 c1 l1 _ (Kd.C_below H1.out.row HB.out.low)).mono ?_; rw [hn1]; rintro e wp ⟨rfl, rfl⟩)
      | (go_at_call 16; refine (law21_props_calls A2 c2 l2 _ (Kd.C_below H2.out.row HB.out.low)).mono ?_; rw [hn2]; rintro e wp ⟨rfl, rfl⟩)
      | (go_at_call 15; refine (law21_awake_calls _).mono ?_; rintro e wb ⟨rfl, hbb⟩))
    go_ret
    exact ⟨rfl, keepB0 hbb HB.out.low⟩
  · have hn' : ¬ (2000 : Int) < (s.size : Int) := by omega
    have hn'' : (200 : Int) < (s1.size : Int) := by omega
    go_enter Try.func6, Try.ntmps6
    go_wp2_with (first
      | (go_at_call 15; clear hfirst; refine (law21_awake_calls _).mono ?_; rintro e wa ⟨rfl, hba⟩; have HB := Lib.hid (HN.out.keep hba); clear hba HN; obtain ⟨x0, x1, x2, y0, y1, y2, y3, y4⟩ := HB.out.cells)
      | (go_at_call 16; clear hfirst2; refine (law21_props_calls A1 c1 l1 _ (Kd.C_below H1.out.row HB.out.low)).mono ?_; rw [hn1]; rintro e wp ⟨rfl, rfl⟩)
      | (go_at_call 16; refine (law21_props_calls A2 c2 l2 _ (Kd.C_below H2.out.row HB.out.low)).mono ?_; rw [hn2]; rintro e wp ⟨rfl, rfl⟩)
      | (go_at_call 15; refine (law21_awake_calls _).mono ?_; rintro e wb ⟨rfl, hbb⟩))
    go_ret
    exact ⟨rfl, keepB0 hbb HB.out.low⟩
  · have hn' : ¬ (2000 : Int) < (s.size : Int) := by omega
    have hn'' : ¬ (200 : Int) < (s1.size : Int) := by omega
    have hn''' : (200 : Int) < (s2.size : Int) := by omega
    go_enter Try.func6, Try.ntmps6
    go_wp2_with (first
      | (go_at_call 15; clear hfirst; refine (law21_awake_calls _).mono ?_; rintro e wa ⟨rfl, hba⟩; have HB := Lib.hid (HN.out.keep hba); clear hba HN; obtain ⟨x0, x1, x2, y0, y1, y2, y3, y4⟩ := HB.out.cells)
      | (go_at_call 16; clear hfirst2; refine (law21_props_calls A1 c1 l1 _ (Kd.C_below H1.out.row HB.out.low)).mono ?_; rw [hn1]; rintro e wp ⟨rfl, rfl⟩)
      | (go_at_call 16; refine (law21_props_calls A2 c2 l2 _ (Kd.C_below H2.out.row HB.out.low)).mono ?_; rw [hn2]; rintro e wp ⟨rfl, rfl⟩)
      | (go_at_call 15; refine (law21_awake_calls _).mono ?_; rintro e wb ⟨rfl, hbb⟩))
    go_ret
    exact ⟨rfl, keepB0 hbb HB.out.low⟩
end Go.Proofs.Ytonbnlfijmapfaa
/- Texts, read back. -/
namespace Go.Proofs.Ytonbnlfijmapfaa
open Go.RowKit Go.Shelf Go.Proofs.YtonbnlfijmapfaaW.PrintWords
set_option linter.unusedVariables false
set_option linter.unusedSimpArgs false

theorem small_short2 {ps : List SPrp} (h : lawProps ps = true) : shortKeys ps := by
  simp only [lawProps, Bool.and_eq_true, List.all_eq_true, small, decide_eq_true_eq] at h
  intro p hp; have := (h.2 p hp).1; omega
theorem some_letters {t : ByteArray} (h : 0 < t.size) : t.toList.isEmpty = false := by
  cases hh : t.toList.isEmpty with
  | false => rfl
  | true => rw [empty_of hh] at h; exact absurd h (by decide)
theorem body_pos {s : ByteArray} {l : List SPrp} (h : propsRight l = true) : 0 < (bodyText s l).size := by
  rw [size_bytesOf, bytesOf_body (propsRight_ok h).2]; simp
theorem edge_pos (x y : Int) (b : ByteArray) : 0 < (strOfNums (fiveBytes x) ++ strOfNums (fiveBytes y) ++ b).size := by
  rw [size_bytesOf, bytesOf_append, bytesOf_append, bytesOf_strOfNums (byteList_five x)]; simp [fiveBytes]
theorem propBytes_short {p : SPrp} (h : p.f1.ok = true) (h2 : p.f0.size ≤ 100) : (propBytes p).length ≤ 601 := by
  have := valBytes_length (k := p.f1.f0) (n := p.f1.f1) (s := p.f1.f2) h
  simp only [propBytes, List.length_cons, List.length_append, bytesOf_length]
  omega
theorem flat_short : ∀ {l : List SPrp}, (∀ p ∈ l, (propBytes p).length ≤ 601) → (l.flatMap propBytes).length ≤ 601 * l.length
  | [], _ => by simp
  | p :: t, h => by
    have := flat_short (l := t) (fun q hq => h q (List.mem_cons_of_mem _ hq))
    have := h p List.mem_cons_self
    simp only [List.flatMap_cons, List.length_append, List.length_cons]
    omega
theorem body_short {s : ByteArray} {l : List SPrp} (hs : s.size ≤ 200) (h : propsRight l = true) (hk : lawProps l = true) : (bodyText s l).size ≤ 20000 := by
  have h16 := (propsRight_ok h).2
  have h2 := flat_short (l := l) (fun p hp => propBytes_short ((propsRight_ok h).1 p hp).2 (by
    simp only [lawProps, Bool.and_eq_true, List.all_eq_true, small, decide_eq_true_eq] at hk
    exact (hk.2 p hp).1))
  rw [size_bytesOf, bytesOf_body h16]
  simp only [List.length_cons, List.length_append, bytesOf_length, propsBytes]
  omega
/-- A vertex' text, read: the vertex. -/
theorem ParseVertex_back (id : Int) (s : ByteArray) (l : List SPrp) (W : World) (hs : s.size ≤ 200) (hl : lawProps l = true) (hg : ranged l) (hc : checkN s l [id] = 0) :
    Calls Try.prog 37 #[.int .i64 id, .string (bodyText s l)] W fun e w' => ∃ A c, e = .returned (.tuple #[.agg #[.int .i64 id, .string s, .slice A l.length c], .int .i64 0]) ∧ l.length ≤ c ∧ kPrp.C w' A l.length l ∧ Below W.heap.size W w' := by
  have h9 := body_short hs (checkN_ok hc).2.2 hl
  refine (web_ParseVertex_calls id (bodyText s l) W (by omega)).mono ?_
  rw [readV_back (by omega) hg (small_short2 hl) hc]
  rintro e w' ⟨v, rfl, hR, hb⟩
  obtain ⟨A, c, rfl, hle, hC⟩ := Kd.R_reads hR
  exact ⟨A, c, rfl, hle, hC, hb⟩
/-- An edge's text, read: the edge. -/
theorem ParseEdge_back (id : Int) (s : ByteArray) (x y : Int) (l : List SPrp) (W : World) (hs : s.size ≤ 200) (hl : lawProps l = true) (hg : ranged l) (hc : checkN s l [id, x, y] = 0) :
    Calls Try.prog 39 #[.int .i64 id, .string (strOfNums (fiveBytes x) ++ strOfNums (fiveBytes y) ++ bodyText s l)] W fun e w' => ∃ A c, e = .returned (.tuple #[.agg #[.int .i64 id, .string s, .int .i64 x, .int .i64 y, .slice A l.length c], .int .i64 0]) ∧ l.length ≤ c ∧ kPrp.C w' A l.length l ∧ Below W.heap.size W w' := by
  have h9 := body_short hs (checkN_ok hc).2.2 hl
  refine (web_ParseEdge_calls id _ W (by
    rw [size_bytesOf, bytesOf_append, bytesOf_append, bytesOf_strOfNums (byteList_five x), bytesOf_strOfNums (byteList_five y)]
    simp only [List.length_append, five_length, bytesOf_length]; omega)).mono ?_
  rw [readE_back (by omega) hg (small_short2 hl) hc]
  rintro e w' ⟨v, rfl, hR, hb⟩
  obtain ⟨A, c, rfl, hle, hC⟩ := Kd.R_reads hR
  exact ⟨A, c, rfl, hle, hC, hb⟩
/-- A vertex' own: as it was. -/
def VertAs (r : SVert × Bool) (tf : Bool → Value) (W : World) (e : Ending) (w' : World) : Prop := ∃ A c, e = .returned (.tuple #[.agg #[.int .i64 r.1.f0, .string r.1.f1, .slice A r.1.f2.length c], tf r.2]) ∧ r.1.f2.length ≤ c ∧ kPrp.C w' A r.1.f2.length r.1.f2 ∧ Below W.heap.size W w'
theorem VertAs_of {r : SVert × Bool} {tf : Bool → Value} {W : World} {e : Ending} {w' : World} (h : VertRet tf W r e w') : VertAs r tf W e w' := by
  obtain ⟨v, rfl, hR, hb⟩ := h
  obtain ⟨A, c, rfl, hle, hC⟩ := Kd.R_reads hR
  exact ⟨A, c, rfl, hle, hC, hb⟩
def EdgeAs (r : SEdg × Bool) (tf : Bool → Value) (W : World) (e : Ending) (w' : World) : Prop := ∃ A c, e = .returned (.tuple #[.agg #[.int .i64 r.1.f0, .string r.1.f1, .int .i64 r.1.f2, .int .i64 r.1.f3, .slice A r.1.f4.length c], tf r.2]) ∧ r.1.f4.length ≤ c ∧ kPrp.C w' A r.1.f4.length r.1.f4 ∧ Below W.heap.size W w'
theorem EdgeAs_of {r : SEdg × Bool} {tf : Bool → Value} {W : World} {e : Ending} {w' : World} (h : EdgeRet tf W r e w') : EdgeAs r tf W e w' := by
  obtain ⟨v, rfl, hR, hb⟩ := h
  obtain ⟨A, c, rfl, hle, hC⟩ := Kd.R_reads hR
  exact ⟨A, c, rfl, hle, hC, hb⟩
theorem both_v (id : Int) (s : ByteArray) (hs : s.size ≤ 2000) : ∃ (p0 : Int) (p1 : ByteArray) (p2 : List SPrp) (k : Int) (b : Bool), ((b = true ∧ k = 0) ∨ (b = false ∧ k = 10)) ∧
    (∀ W, Calls Try.prog 37 #[.int .i64 id, .string s] W fun e w' => ∃ A c, e = .returned (.tuple #[.agg #[.int .i64 p0, .string p1, .slice A p2.length c], .int .i64 k]) ∧ p2.length ≤ c ∧ kPrp.C w' A p2.length p2 ∧ Below W.heap.size W w') ∧
    (∀ W, Calls Try.prog 42 #[.int .i64 id, .string s] W fun e w' => ∃ A c, e = .returned (.tuple #[.agg #[.int .i64 p0, .string p1, .slice A p2.length c], .bool b]) ∧ p2.length ≤ c ∧ kPrp.C w' A p2.length p2 ∧ Below W.heap.size W w') := by
  refine ⟨(readV id s).1.f0, (readV id s).1.f1, (readV id s).1.f2, if (readV id s).2 then 0 else 10, (readV id s).2, ?_, fun W => (web_ParseVertex_calls id s W (by omega)).mono fun e w' h => VertAs_of h, fun W => (ref21_Vertex_calls id s W (by omega)).mono fun e w' h => VertAs_of h⟩
  cases (readV id s).2 <;> simp
theorem both_e (id : Int) (s : ByteArray) (hs : s.size ≤ 2000) : ∃ (p0 : Int) (p1 : ByteArray) (p2 p3 : Int) (p4 : List SPrp) (k : Int) (b : Bool), ((b = true ∧ k = 0) ∨ (b = false ∧ k = 10)) ∧
    (∀ W, Calls Try.prog 39 #[.int .i64 id, .string s] W fun e w' => ∃ A c, e = .returned (.tuple #[.agg #[.int .i64 p0, .string p1, .int .i64 p2, .int .i64 p3, .slice A p4.length c], .int .i64 k]) ∧ p4.length ≤ c ∧ kPrp.C w' A p4.length p4 ∧ Below W.heap.size W w') ∧
    (∀ W, Calls Try.prog 43 #[.int .i64 id, .string s] W fun e w' => ∃ A c, e = .returned (.tuple #[.agg #[.int .i64 p0, .string p1, .int .i64 p2, .int .i64 p3, .slice A p4.length c], .bool b]) ∧ p4.length ≤ c ∧ kPrp.C w' A p4.length p4 ∧ Below W.heap.size W w') := by
  refine ⟨(readE id s).1.f0, (readE id s).1.f1, (readE id s).1.f2, (readE id s).1.f3, (readE id s).1.f4, if (readE id s).2 then 0 else 10, (readE id s).2, ?_, fun W => (web_ParseEdge_calls id s W (by omega)).mono fun e w' h => EdgeAs_of h, fun W => (ref21_Edge_calls id s W (by omega)).mono fun e w' h => EdgeAs_of h⟩
  cases (readE id s).2 <;> simp
theorem entries_short {id : Int} {s : ByteArray} {l : List SPrp} {e : SEntry} (he : e ∈ entries id s l) : e.f1.size ≤ 1000 := by
  unfold entries at he
  split at he
  · rename_i hc
    rcases List.mem_cons.1 he with rfl | he
    · show (strOfNums (fiveBytes id)).size ≤ 1000
      rw [size_bytesOf, bytesOf_strOfNums (byteList_five id), five_length]; decide
    · simp only [List.mem_map] at he
      obtain ⟨p, hp, rfl⟩ := he
      have h2 := ((propsRight_ok (checkN_ok hc).2.2).1 p hp).2
      have := valBytes_length (k := p.f1.f0) (n := p.f1.f1) (s := p.f1.f2) h2
      show (strOfNums _ ++ strOfNums _).size ≤ 1000
      rw [size_bytesOf, bytesOf_append, bytesOf_strOfNums (byteList_val _ _ _), bytesOf_strOfNums (byteList_five id), List.length_append, five_length]; omega
  · simp at he
end Go.Proofs.Ytonbnlfijmapfaa
