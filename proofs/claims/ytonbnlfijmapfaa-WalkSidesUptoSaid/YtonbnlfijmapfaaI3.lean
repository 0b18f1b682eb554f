/- Texts of this proof, joined: M6, M7, P8, M8, S0, S1, M9, M10, M11, M12, S8, P9, S2, S3, M13, P10, L33. No condition. -/
import Derived.Test.YtonbnlfijmapfaaI1
import Derived.Test.YtonbnlfijmapfaaI2
import Derived.Test.YtonbnlfijmapfaaProg
import Derived.KernelRfl
import Derived.Shelf.SortM.Plain
import Derived.Shelf.SortM.SortNone
import Derived.Sort.OwnSortedInts
import Derived.Maps.RangeWalk
import Derived.Shelf.Slices.CompactI
import Derived.Shelf.SlIterI.Nil
/- graph.AddVertex. No condition but on sizes. -/
namespace Go.Proofs.Ytonbnlfijmapfaa
open Go.RowKit Go.Shelf Go.Proofs.YtonbnlfijmapfaaW.PrintWords
set_option linter.unusedVariables false
set_option linter.unusedSimpArgs false

def addV (vs : List SVert) (x : SVert) : List SVert × Int :=
  if checkN x.f1 x.f2 [x.f0] = 0 then (if (findK SVert.f0 vs x.f0).isSome = true then (vs, 31) else (insK SVert.f0 x vs, 0)) else (vs, checkN x.f1 x.f2 [x.f0])
theorem wf_id {n : Int} (h : idOk n = true) : (Lit.int .i64 n).wf = true := by
  simp only [idOk, Bool.and_eq_true, decide_eq_true_eq] at h
  exact wf_ik (by omega) (by omega)
section
variable {W W' : World} {B g m1 m2 : Nat} {vs : List SVert} {es : List SEdg}
theorem GraphAt.putV (h : GraphAt W B g m1 m2 vs es) {x : SVert} {val : Value} {V : List (Int × Value)} (hn : findK SVert.f0 vs x.f0 = none) (hZ : Zip (VAs W B) SVert.f0 V vs) (hI : IMap W' Try.prog 3 m1 (putI V x.f0 val)) (hb : But (fun k => k = m1) W W') (hv : VAs W B val x) : GraphAt W' B g m1 m2 (insK SVert.f0 x vs) es := by
  have hnc : ∀ k, k = m1 → NoCells W k := fun k hk => by rw [hk]; exact h.vm.noCells
  refine ⟨hb.blk h.blk (fun hs => hnc g hs _ _ h.blk), h.low, h.ne, ⟨putI V x.f0 val, hI, ?_⟩, h.em.but hb (fun e => h.ne e.symm) hnc⟩
  have hm : ∀ v y, VAs W B v y → VAs W' B v y := fun v y ⟨pv, e, hr⟩ => ⟨pv, e, hb.row hr hnc⟩
  have := Zip.ins (K := VAs W' B) (key := SVert.f0) rfl (hm _ _ hv) ((hZ.mono hm).del x.f0)
  rw [delK_none hn] at this
  exact this
end

set_option maxRecDepth 100000 in
set_option maxHeartbeats 4000000 in
theorem graph_AddVertex_calls (B g m1 m2 : Nat) (vs : List SVert) (es : List SEdg) (id : Int) (s : ByteArray) (A : Option Addr) (c : Nat) (l : List SPrp) (w : World) (hG : GraphAt w B g m1 m2 vs es) (h : kPrp.C w A l.length l) (hf : fits l) (hs : s.size ≤ 2000000) (hn : vs.length ≤ 1000000) :
    Calls Try.prog 48 #[.pointer (some ⟨g, 0, none⟩), .agg #[.int .i64 id, .string s, .slice A l.length c]] w fun e w' => e = .returned (.int .i64 (addV vs ⟨id, s, l⟩).2) ∧ GraphAt w' B g m1 m2 (addV vs ⟨id, s, l⟩).1 es ∧ But (fun k => k = m1) w w' := by
  have HX := Lib.hid h; clear h
  have HF := Lib.hid hf; clear hf
  have HG := Lib.hid hG; clear hG
  have HD := Lib.hid (show addV vs ⟨id, s, l⟩ = (if checkN s l [id] = 0 then (if (findK SVert.f0 vs id).isSome = true then (vs, 31) else (insK SVert.f0 ⟨id, s, l⟩ vs, 0)) else (vs, checkN s l [id])) from rfl)
  have HB0 := Lib.hid (keepB0 (below_al (w.alloc (.cells #[.int .i64 id, .string s, .slice A l.length c] 24)) (.cells #[.int .i64 id] 3)) (below_al w (.cells #[.int .i64 id, .string s, .slice A l.length c] 24)))
  by_cases hc : checkN s l [id] = 0
  · rw [if_pos hc] at HD
    have hwf := wf_id (show idOk id = true by simpa using (checkN_ok hc).1)
    have h16 := (propsRight_ok (checkN_ok hc).2.2).2
    obtain ⟨V, hV, hZ⟩ := HG.out.vm
    have HV := Lib.hid hV; have HZ := Lib.hid hZ; clear hV hZ
    have hlen := HZ.out.length
    cases hfd : findK SVert.f0 vs id with
    | some x0 =>
      rw [hfd] at HD
      simp only [Option.isSome_some, if_true] at HD
      obtain ⟨val, hget, pv0, rfl, hR0⟩ := HZ.out.some hfd
      obtain ⟨A0, d0, rfl⟩ := Kd.R_slice hR0
      have HL : Hid (∀ W, Below w.heap.size w W → (Instr.lookup 132 (.map (some m1)) (.int .i64 id) true).run Try.prog W = .ok (.tuple #[.agg #[.int .i64 x0.f0, .string x0.f1, .slice A0 x0.f2.length d0], .bool true]) W) := Lib.hid (fun W hW => by
        have := run_look_ok Try.underlying3 Try.underlying132 (z := .agg #[.int .i64 0, .string ⟨#[]⟩, .slice none 0 0]) (by kernel_rfl) (HV.out.below hW) hwf
        rw [hget] at this
        exact this)
      clear hget hfd
      go_enter Try.func48, Try.ntmps48
      go_wp2_with (go_at_call 46; refine (graph_Check_calls s A _ c 1 l [id] _ hs (Kd.C_below HX.out HB0.out) HF.out ?hI).mono ?_; (case hI => exact C_boxg (Kd.int .i64) (by decide) _ _ (by simp) id #[.int .i64 id] _ rfl); rw [hc]; rintro e w1 ⟨rfl, hb1⟩; have HB1 := Lib.hid (keepB0 hb1 HB0.out); have HK1 := Lib.hid (blk_below hb1 (blk_alloc (blk_new w #[.int .i64 id, .string s, .slice A l.length c] 24) (.cells #[.int .i64 id] 3))); have HG1 := Lib.hid (HG.out.below HB1.out); clear hb1)
      refine wp_region_held_drew (S := (fun w' => Below w1.heap.size w1 w')) (by kernel_rfl) ?hS101 (fun hH0 => ?_)
      case hS101 => exact below_drew (Below.refl _ _)
      refine takeY (oi := { dst := some 20, op := Op.move (Operand.tmp 0), type := 80, pos := "graph.go:53", after := #[], guard := none }) 0 (some 20) (v := ?v0_102) rfl rfl (by kernel_rfl) (by kernel_rfl) (by kernel_rfl) (fun _ _ _ h => h) (by kernel_rfl) ?hy102 hH0 ?_
      case hy102 => (intro w_ hSw; (try dsimp only at hSw); go_simp; (first | done | with_reducible rfl | rw [if_neg (by omega)]))
      simp only [Act.put, List.setIfInBounds_toArray, List.set_cons_zero, List.set_cons_succ]
      refine takeY (oi := { dst := some 21, op := Op.nilCheck (Operand.tmp 20), type := 0, pos := "graph.go:53", after := #[{ on := 0, ground := Ground.data }], guard := none }) 1 (some 21) (v := ?v1_103) rfl rfl (by kernel_rfl) (by kernel_rfl) (by kernel_rfl) (fun _ _ _ h => h) (by kernel_rfl) ?hy103 hH0 ?_
      case hy103 => (intro w_ hSw; (try dsimp only at hSw); go_simp; (first | done | with_reducible rfl | rw [if_neg (by omega)]))
      simp only [Act.put, List.setIfInBounds_toArray, List.set_cons_zero, List.set_cons_succ]
      refine takeY (oi := { dst := some 22, op := Op.fieldAddr 135 (Operand.tmp 21) 0, type := 0, pos := "graph.go:53", after := #[{ on := 1, ground := Ground.data }], guard := none }) 2 (some 22) (v := ?v2_104) rfl rfl (by kernel_rfl) (by kernel_rfl) (by kernel_rfl) (fun _ _ _ h => h) (by kernel_rfl) ?hy104 hH0 ?_
      case hy104 => (intro w_ hSw; (try dsimp only at hSw); go_simp; (first | done | with_reducible rfl | rw [if_neg (by omega)]))
      simp only [Act.put, List.setIfInBounds_toArray, List.set_cons_zero, List.set_cons_succ]
      refine takeY (oi := { dst := some 23, op := Op.load 132 (Operand.tmp 22), type := 132, pos := "graph.go:53", after := #[{ on := 2, ground := Ground.data }], guard := none }) 3 (some 23) (v := ?v3_105) rfl rfl (by kernel_rfl) (by kernel_rfl) (by kernel_rfl) (fun _ _ _ h => h) (by kernel_rfl) ?hy105 hH0 ?_
      case hy105 => (intro w_ hSw; (try dsimp only at hSw); (have hk := blk_cell (blk_below hSw HG1.out.blk) 0; go_simp; (first | done | with_reducible rfl)))
      simp only [Act.put, List.setIfInBounds_toArray, List.set_cons_zero, List.set_cons_succ]
      refine takeY (oi := { dst := some 24, op := Op.fieldAddr 24 (Operand.tmp 3) 0, type := 0, pos := "graph.go:53", after := #[], guard := none }) 4 (some 24) (v := ?v4_106) rfl rfl (by kernel_rfl) (by kernel_rfl) (by kernel_rfl) (fun _ _ _ h => h) (by kernel_rfl) ?hy106 hH0 ?_
      case hy106 => (intro w_ hSw; (try dsimp only at hSw); go_simp; (first | done | with_reducible rfl | rw [if_neg (by omega)]))
      simp only [Act.put, List.setIfInBounds_toArray, List.set_cons_zero, List.set_cons_succ]
      refine takeY (oi := { dst := some 25, op := Op.load 3 (Operand.tmp 24), type := 3, pos := "graph.go:53", after := #[{ on := 4, ground := Ground.data }], guard := none }) 5 (some 25) (v := ?v5_107) rfl rfl (by kernel_rfl) (by kernel_rfl) (by kernel_rfl) (fun _ _ _ h => h) (by kernel_rfl) ?hy107 hH0 ?_
      case hy107 => (intro w_ hSw; (try dsimp only at hSw); (have hk := blk_cell (blk_below hSw HK1.out) 0; go_simp; (first | done | with_reducible rfl)))
      simp only [Act.put, List.setIfInBounds_toArray, List.set_cons_zero, List.set_cons_succ]
      refine takeY (oi := { dst := some 26, op := Op.lookup 132 (Operand.tmp 23) (Operand.tmp 25) true, type := 73, pos := "graph.go:53", after := #[{ on := 3, ground := Ground.data }, { on := 5, ground := Ground.data }], guard := none }) 6 (some 26) (v := ?v6_108) rfl rfl (by kernel_rfl) (by kernel_rfl) (by kernel_rfl) (fun _ _ _ h => h) (by kernel_rfl) ?hy108 hH0 ?_
      case hy108 => (intro w_ hSw; (try dsimp only at hSw); (have hl := HL.out _ (keepB0 hSw HB1.out); go_simp; (first | done | with_reducible rfl)))
      simp only [Act.put, List.setIfInBounds_toArray, List.set_cons_zero, List.set_cons_succ]
      refine takeY (oi := { dst := some 19, op := Op.move (Operand.tmp 26), type := 73, pos := "graph.go:53", after := #[{ on := 6, ground := Ground.data }], guard := none }) 7 (some 19) (v := ?v7_109) rfl rfl (by kernel_rfl) (by kernel_rfl) (by kernel_rfl) (fun _ _ _ h => h) (by kernel_rfl) ?hy109 hH0 ?_
      case hy109 => (intro w_ hSw; (try dsimp only at hSw); go_simp; (first | done | with_reducible rfl | rw [if_neg (by omega)]))
      simp only [Act.put, List.setIfInBounds_toArray, List.set_cons_zero, List.set_cons_succ]
      refine takeY (oi := { dst := some 27, op := Op.extract (Operand.tmp 19) 0, type := 24, pos := "graph.go:53", after := #[{ on := 7, ground := Ground.data }], guard := none }) 8 (some 27) (v := ?v8_110) rfl rfl (by kernel_rfl) (by kernel_rfl) (by kernel_rfl) (fun _ _ _ h => h) (by kernel_rfl) ?hy110 hH0 ?_
      case hy110 => (intro w_ hSw; (try dsimp only at hSw); go_simp; (first | done | with_reducible rfl | rw [if_neg (by omega)]))
      simp only [Act.put, List.setIfInBounds_toArray, List.set_cons_zero, List.set_cons_succ]
      refine takeY (oi := { dst := some 28, op := Op.extract (Operand.tmp 19) 1, type := 4, pos := "graph.go:53", after := #[{ on := 7, ground := Ground.data }, { on := 11, ground := Ground.gcOnly Departure.lateStores }], guard := none }) 9 (some 28) (v := ?v9_111) rfl rfl (by kernel_rfl) (by kernel_rfl) (by kernel_rfl) (fun _ _ _ h => h) (by kernel_rfl) ?hy111 hH0 ?_
      case hy111 => (intro w_ hSw; (try dsimp only at hSw); go_simp; (first | done | with_reducible rfl | rw [if_neg (by omega)]))
      simp only [Act.put, List.setIfInBounds_toArray, List.set_cons_zero, List.set_cons_succ]
      refine wpAnyH_ready (rs := [10]) (by kernel_rfl) (by simp) ?_
      refine AllReadyH.cons (o := { dst := some 6, op := Op.alloc 24, type := 0, pos := "graph.go:53", after := #[], guard := none }) rfl (fun K1 hK1 => ?_) AllReadyH.nil
      go_simp
      refine hK1.out _ _ ?hS112 (fun hH1 => ?_)
      case hS112 => ((try dsimp only); (exact keepB0 (below_al _ _) hH0))
      clear hK1 K1
      (try clear hH0)
      (try simp only [Act.put, List.setIfInBounds_toArray, List.set_cons_zero, List.set_cons_succ])
      refine wpAnyH_ready (rs := [11]) (by kernel_rfl) (by simp) ?_
      refine AllReadyH.cons (o := { dst := none, op := Op.store 24 (Operand.tmp 6) (Operand.tmp 27), type := 0, pos := "graph.go:53", after := #[{ on := 10, ground := Ground.data }, { on := 8, ground := Ground.data }, { on := 0, ground := Ground.phase }, { on := 1, ground := Ground.phase }, { on := 2, ground := Ground.phase }, { on := 3, ground := Ground.phase }, { on := 4, ground := Ground.phase }, { on := 5, ground := Ground.phase }, { on := 6, ground := Ground.phase }, { on := 7, ground := Ground.phase }, { on := 8, ground := Ground.phase }, { on := 9, ground := Ground.textOnly Departure.lateStores }, { on := 10, ground := Ground.phase }], guard := none }) rfl (fun K2 hK2 => ?_) AllReadyH.nil
      go_simp
      refine hK2.out _ _ ?hS113 (fun hH2 => ?_)
      case hS113 => ((try dsimp only); ((first | exact keepB0 (below_al _ _) (below_drew (Below.refl _ _)) | exact below_set3 hH1 (Nat.le_refl _) _ _ _)))
      clear hK2 K2
      (try clear hH1)
      (try simp only [Act.put, List.setIfInBounds_toArray, List.set_cons_zero, List.set_cons_succ])
      refine takeY (oi := { dst := some 7, op := Op.assign (Operand.tmp 28), type := 4, pos := "graph.go:53", after := #[{ on := 9, ground := Ground.data }, { on := 11, ground := Ground.chain }, { on := 0, ground := Ground.phase }, { on := 1, ground := Ground.phase }, { on := 2, ground := Ground.phase }, { on := 3, ground := Ground.phase }, { on := 4, ground := Ground.phase }, { on := 5, ground := Ground.phase }, { on := 6, ground := Ground.phase }, { on := 7, ground := Ground.phase }, { on := 8, ground := Ground.phase }, { on := 9, ground := Ground.phase }, { on := 10, ground := Ground.phase }, { on := 11, ground := Ground.phase }], guard := none }) 12 (some 7) (v := ?v12_114) rfl rfl (by kernel_rfl) (by kernel_rfl) (by kernel_rfl) (fun _ _ _ h => h) (by kernel_rfl) ?hy114 hH2 ?_
      case hy114 => (intro w_ hSw; (try dsimp only at hSw); go_simp; (first | done | with_reducible rfl | rw [if_neg (by omega)]))
      simp only [Act.put, List.setIfInBounds_toArray, List.set_cons_zero, List.set_cons_succ]
      refine wpAnyH_done (by kernel_rfl) ?_ _
      have hEnd := hH2
      clear hH2
      have HE := Lib.hid (keepB0 hEnd HB1.out)
      clear hEnd
      go_wp2
      go_ret
      rw [HD.out]
      exact ⟨rfl, HG.out.below HE.out, But.of_below _ HE.out⟩
    | none =>
      rw [hfd] at HD
      simp only [Option.isSome_none] at HD
      rw [if_neg (by simp)] at HD
      have HN := Lib.hid hfd
      have hget := HZ.out.none hfd
      have HL : Hid (∀ W, Below w.heap.size w W → (Instr.lookup 132 (.map (some m1)) (.int .i64 id) true).run Try.prog W = .ok (.tuple #[.agg #[.int .i64 0, .string ⟨#[]⟩, .slice none 0 0], .bool false]) W) := Lib.hid (fun W hW => by
        have := run_look_ok Try.underlying3 Try.underlying132 (z := .agg #[.int .i64 0, .string ⟨#[]⟩, .slice none 0 0]) (by kernel_rfl) (HV.out.below hW) hwf
        rw [hget] at this
        exact this)
      clear hget hfd
      go_enter Try.func48, Try.ntmps48
      go_wp2_with (go_at_call 46; refine (graph_Check_calls s A _ c 1 l [id] _ hs (Kd.C_below HX.out HB0.out) HF.out ?hI).mono ?_; (case hI => exact C_boxg (Kd.int .i64) (by decide) _ _ (by simp) id #[.int .i64 id] _ rfl); rw [hc]; rintro e w1 ⟨rfl, hb1⟩; have HB1 := Lib.hid (keepB0 hb1 HB0.out); have HK1 := Lib.hid (blk_below hb1 (blk_alloc (blk_new w #[.int .i64 id, .string s, .slice A l.length c] 24) (.cells #[.int .i64 id] 3))); have HG1 := Lib.hid (HG.out.below HB1.out); clear hb1)
      refine wp_region_held_drew (S := (fun w' => Below w1.heap.size w1 w')) (by kernel_rfl) ?hS201 (fun hH0 => ?_)
      case hS201 => exact below_drew (Below.refl _ _)
      refine takeY (oi := { dst := some 20, op := Op.move (Operand.tmp 0), type := 80, pos := "graph.go:53", after := #[], guard := none }) 0 (some 20) (v := ?v0_202) rfl rfl (by kernel_rfl) (by kernel_rfl) (by kernel_rfl) (fun _ _ _ h => h) (by kernel_rfl) ?hy202 hH0 ?_
      case hy202 => (intro w_ hSw; (try dsimp only at hSw); go_simp; (first | done | with_reducible rfl | rw [if_neg (by omega)]))
      simp only [Act.put, List.setIfInBounds_toArray, List.set_cons_zero, List.set_cons_succ]
      refine takeY (oi := { dst := some 21, op := Op.nilCheck (Operand.tmp 20), type := 0, pos := "graph.go:53", after := #[{ on := 0, ground := Ground.data }], guard := none }) 1 (some 21) (v := ?v1_203) rfl rfl (by kernel_rfl) (by kernel_rfl) (by kernel_rfl) (fun _ _ _ h => h) (by kernel_rfl) ?hy203 hH0 ?_
      case hy203 => (intro w_ hSw; (try dsimp only at hSw); go_simp; (first | done | with_reducible rfl | rw [if_neg (by omega)]))
      simp only [Act.put, List.setIfInBounds_toArray, List.set_cons_zero, List.set_cons_succ]
      refine takeY (oi := { dst := some 22, op := Op.fieldAddr 135 (Operand.tmp 21) 0, type := 0, pos := "graph.go:53", after := #[{ on := 1, ground := Ground.data }], guard := none }) 2 (some 22) (v := ?v2_204) rfl rfl (by kernel_rfl) (by kernel_rfl) (by kernel_rfl) (fun _ _ _ h => h) (by kernel_rfl) ?hy204 hH0 ?_
      case hy204 => (intro w_ hSw; (try dsimp only at hSw); go_simp; (first | done | with_reducible rfl | rw [if_neg (by omega)]))
      simp only [Act.put, List.setIfInBounds_toArray, List.set_cons_zero, List.set_cons_succ]
      refine takeY (oi := { dst := some 23, op := Op.load 132 (Operand.tmp 22), type := 132, pos := "graph.go:53", after := #[{ on := 2, ground := Ground.data }], guard := none }) 3 (some 23) (v := ?v3_205) rfl rfl (by kernel_rfl) (by kernel_rfl) (by kernel_rfl) (fun _ _ _ h => h) (by kernel_rfl) ?hy205 hH0 ?_
      case hy205 => (intro w_ hSw; (try dsimp only at hSw); (have hk := blk_cell (blk_below hSw HG1.out.blk) 0; go_simp; (first | done | with_reducible rfl)))
      simp only [Act.put, List.setIfInBounds_toArray, List.set_cons_zero, List.set_cons_succ]
      refine takeY (oi := { dst := some 24, op := Op.fieldAddr 24 (Operand.tmp 3) 0, type := 0, pos := "graph.go:53", after := #[], guard := none }) 4 (some 24) (v := ?v4_206) rfl rfl (by kernel_rfl) (by kernel_rfl) (by kernel_rfl) (fun _ _ _ h => h) (by kernel_rfl) ?hy206 hH0 ?_
      case hy206 => (intro w_ hSw; (try dsimp only at hSw); go_simp; (first | done | with_reducible rfl | rw [if_neg (by omega)]))
      simp only [Act.put, List.setIfInBounds_toArray, List.set_cons_zero, List.set_cons_succ]
      refine takeY (oi := { dst := some 25, op := Op.load 3 (Operand.tmp 24), type := 3, pos := "graph.go:53", after := #[{ on := 4, ground := Ground.data }], guard := none }) 5 (some 25) (v := ?v5_207) rfl rfl (by kernel_rfl) (by kernel_rfl) (by kernel_rfl) (fun _ _ _ h => h) (by kernel_rfl) ?hy207 hH0 ?_
      case hy207 => (intro w_ hSw; (try dsimp only at hSw); (have hk := blk_cell (blk_below hSw HK1.out) 0; go_simp; (first | done | with_reducible rfl)))
      simp only [Act.put, List.setIfInBounds_toArray, List.set_cons_zero, List.set_cons_succ]
      refine takeY (oi := { dst := some 26, op := Op.lookup 132 (Operand.tmp 23) (Operand.tmp 25) true, type := 73, pos := "graph.go:53", after := #[{ on := 3, ground := Ground.data }, { on := 5, ground := Ground.data }], guard := none }) 6 (some 26) (v := ?v6_208) rfl rfl (by kernel_rfl) (by kernel_rfl) (by kernel_rfl) (fun _ _ _ h => h) (by kernel_rfl) ?hy208 hH0 ?_
      case hy208 => (intro w_ hSw; (try dsimp only at hSw); (have hl := HL.out _ (keepB0 hSw HB1.out); go_simp; (first | done | with_reducible rfl)))
      simp only [Act.put, List.setIfInBounds_toArray, List.set_cons_zero, List.set_cons_succ]
      refine takeY (oi := { dst := some 19, op := Op.move (Operand.tmp 26), type := 73, pos := "graph.go:53", after := #[{ on := 6, ground := Ground.data }], guard := none }) 7 (some 19) (v := ?v7_209) rfl rfl (by kernel_rfl) (by kernel_rfl) (by kernel_rfl) (fun _ _ _ h => h) (by kernel_rfl) ?hy209 hH0 ?_
      case hy209 => (intro w_ hSw; (try dsimp only at hSw); go_simp; (first | done | with_reducible rfl | rw [if_neg (by omega)]))
      simp only [Act.put, List.setIfInBounds_toArray, List.set_cons_zero, List.set_cons_succ]
      refine takeY (oi := { dst := some 27, op := Op.extract (Operand.tmp 19) 0, type := 24, pos := "graph.go:53", after := #[{ on := 7, ground := Ground.data }], guard := none }) 8 (some 27) (v := ?v8_210) rfl rfl (by kernel_rfl) (by kernel_rfl) (by kernel_rfl) (fun _ _ _ h => h) (by kernel_rfl) ?hy210 hH0 ?_
      case hy210 => (intro w_ hSw; (try dsimp only at hSw); go_simp; (first | done | with_reducible rfl | rw [if_neg (by omega)]))
      simp only [Act.put, List.setIfInBounds_toArray, List.set_cons_zero, List.set_cons_succ]
      refine takeY (oi := { dst := some 28, op := Op.extract (Operand.tmp 19) 1, type := 4, pos := "graph.go:53", after := #[{ on := 7, ground := Ground.data }, { on := 11, ground := Ground.gcOnly Departure.lateStores }], guard := none }) 9 (some 28) (v := ?v9_211) rfl rfl (by kernel_rfl) (by kernel_rfl) (by kernel_rfl) (fun _ _ _ h => h) (by kernel_rfl) ?hy211 hH0 ?_
      case hy211 => (intro w_ hSw; (try dsimp only at hSw); go_simp; (first | done | with_reducible rfl | rw [if_neg (by omega)]))
      simp only [Act.put, List.setIfInBounds_toArray, List.set_cons_zero, List.set_cons_succ]
      refine wpAnyH_ready (rs := [10]) (by kernel_rfl) (by simp) ?_
      refine AllReadyH.cons (o := { dst := some 6, op := Op.alloc 24, type := 0, pos := "graph.go:53", after := #[], guard := none }) rfl (fun K1 hK1 => ?_) AllReadyH.nil
      go_simp
      refine hK1.out _ _ ?hS212 (fun hH1 => ?_)
      case hS212 => ((try dsimp only); (exact keepB0 (below_al _ _) hH0))
      clear hK1 K1
      (try clear hH0)
      (try simp only [Act.put, List.setIfInBounds_toArray, List.set_cons_zero, List.set_cons_succ])
      refine wpAnyH_ready (rs := [11]) (by kernel_rfl) (by simp) ?_
      refine AllReadyH.cons (o := { dst := none, op := Op.store 24 (Operand.tmp 6) (Operand.tmp 27), type := 0, pos := "graph.go:53", after := #[{ on := 10, ground := Ground.data }, { on := 8, ground := Ground.data }, { on := 0, ground := Ground.phase }, { on := 1, ground := Ground.phase }, { on := 2, ground := Ground.phase }, { on := 3, ground := Ground.phase }, { on := 4, ground := Ground.phase }, { on := 5, ground := Ground.phase }, { on := 6, ground := Ground.phase }, { on := 7, ground := Ground.phase }, { on := 8, ground := Ground.phase }, { on := 9, ground := Ground.textOnly Departure.lateStores }, { on := 10, ground := Ground.phase }], guard := none }) rfl (fun K2 hK2 => ?_) AllReadyH.nil
      go_simp
      refine hK2.out _ _ ?hS213 (fun hH2 => ?_)
      case hS213 => ((try dsimp only); ((first | exact keepB0 (below_al _ _) (below_drew (Below.refl _ _)) | exact below_set3 hH1 (Nat.le_refl _) _ _ _)))
      clear hK2 K2
      (try clear hH1)
      (try simp only [Act.put, List.setIfInBounds_toArray, List.set_cons_zero, List.set_cons_succ])
      refine takeY (oi := { dst := some 7, op := Op.assign (Operand.tmp 28), type := 4, pos := "graph.go:53", after := #[{ on := 9, ground := Ground.data }, { on := 11, ground := Ground.chain }, { on := 0, ground := Ground.phase }, { on := 1, ground := Ground.phase }, { on := 2, ground := Ground.phase }, { on := 3, ground := Ground.phase }, { on := 4, ground := Ground.phase }, { on := 5, ground := Ground.phase }, { on := 6, ground := Ground.phase }, { on := 7, ground := Ground.phase }, { on := 8, ground := Ground.phase }, { on := 9, ground := Ground.phase }, { on := 10, ground := Ground.phase }, { on := 11, ground := Ground.phase }], guard := none }) 12 (some 7) (v := ?v12_214) rfl rfl (by kernel_rfl) (by kernel_rfl) (by kernel_rfl) (fun _ _ _ h => h) (by kernel_rfl) ?hy214 hH2 ?_
      case hy214 => (intro w_ hSw; (try dsimp only at hSw); go_simp; (first | done | with_reducible rfl | rw [if_neg (by omega)]))
      simp only [Act.put, List.setIfInBounds_toArray, List.set_cons_zero, List.set_cons_succ]
      refine wpAnyH_done (by kernel_rfl) ?_ _
      have hEnd := hH2
      clear hH2
      have HE := Lib.hid hEnd
      have HE2 := Lib.hid (keepB0 hEnd HB1.out)
      clear hEnd
      go_wp2_with fail
      refine wp_region_held_drew (S := (fun w' => But (fun k => k = m1) w w' ∧ Blk w' g #[.map (some m1), .map (some m2)] 135 ∧ Blk w' w.heap.size #[.int .i64 id, .string s, .slice A l.length c] 24)) (by kernel_rfl) ?hS301 (fun hH0 => ?_)
      case hS301 => exact ⟨But.of_below _ (below_drew HE2.out), blk_drew (blk_below HE.out HG1.out.blk), blk_drew (blk_below HE.out HK1.out)⟩
      refine takeY (oi := { dst := some 30, op := Op.move (Operand.tmp 0), type := 80, pos := "graph.go:56", after := #[], guard := none }) 0 (some 30) (v := ?v0_302) rfl rfl (by kernel_rfl) (by kernel_rfl) (by kernel_rfl) (fun _ _ _ h => h) (by kernel_rfl) ?hy302 hH0 ?_
      case hy302 => (intro w_ hSw; (try dsimp only at hSw); go_simp; (first | done | with_reducible rfl | rw [if_neg (by omega)]))
      simp only [Act.put, List.setIfInBounds_toArray, List.set_cons_zero, List.set_cons_succ]
      refine takeY (oi := { dst := some 31, op := Op.nilCheck (Operand.tmp 30), type := 0, pos := "graph.go:56", after := #[{ on := 0, ground := Ground.data }], guard := none }) 1 (some 31) (v := ?v1_303) rfl rfl (by kernel_rfl) (by kernel_rfl) (by kernel_rfl) (fun _ _ _ h => h) (by kernel_rfl) ?hy303 hH0 ?_
      case hy303 => (intro w_ hSw; (try dsimp only at hSw); go_simp; (first | done | with_reducible rfl | rw [if_neg (by omega)]))
      simp only [Act.put, List.setIfInBounds_toArray, List.set_cons_zero, List.set_cons_succ]
      refine takeY (oi := { dst := some 32, op := Op.fieldAddr 135 (Operand.tmp 31) 0, type := 0, pos := "graph.go:56", after := #[{ on := 1, ground := Ground.data }], guard := none }) 2 (some 32) (v := ?v2_304) rfl rfl (by kernel_rfl) (by kernel_rfl) (by kernel_rfl) (fun _ _ _ h => h) (by kernel_rfl) ?hy304 hH0 ?_
      case hy304 => (intro w_ hSw; (try dsimp only at hSw); go_simp; (first | done | with_reducible rfl | rw [if_neg (by omega)]))
      simp only [Act.put, List.setIfInBounds_toArray, List.set_cons_zero, List.set_cons_succ]
      refine takeY (oi := { dst := some 33, op := Op.load 132 (Operand.tmp 32), type := 132, pos := "graph.go:56", after := #[{ on := 2, ground := Ground.data }], guard := none }) 3 (some 33) (v := ?v3_305) rfl rfl (by kernel_rfl) (by kernel_rfl) (by kernel_rfl) (fun _ _ _ h => h) (by kernel_rfl) ?hy305 hH0 ?_
      case hy305 => (intro w_ hSw; (try dsimp only at hSw); (have hk := blk_cell hSw.2.1 0; go_simp; (first | done | with_reducible rfl)))
      simp only [Act.put, List.setIfInBounds_toArray, List.set_cons_zero, List.set_cons_succ]
      refine takeY (oi := { dst := some 34, op := Op.fieldAddr 24 (Operand.tmp 3) 0, type := 0, pos := "graph.go:56", after := #[], guard := none }) 4 (some 34) (v := ?v4_306) rfl rfl (by kernel_rfl) (by kernel_rfl) (by kernel_rfl) (fun _ _ _ h => h) (by kernel_rfl) ?hy306 hH0 ?_
      case hy306 => (intro w_ hSw; (try dsimp only at hSw); go_simp; (first | done | with_reducible rfl | rw [if_neg (by omega)]))
      simp only [Act.put, List.setIfInBounds_toArray, List.set_cons_zero, List.set_cons_succ]
      refine takeY (oi := { dst := some 35, op := Op.load 3 (Operand.tmp 34), type := 3, pos := "graph.go:56", after := #[{ on := 4, ground := Ground.data }], guard := none }) 5 (some 35) (v := ?v5_307) rfl rfl (by kernel_rfl) (by kernel_rfl) (by kernel_rfl) (fun _ _ _ h => h) (by kernel_rfl) ?hy307 hH0 ?_
      case hy307 => (intro w_ hSw; (try dsimp only at hSw); (have hk := blk_cell hSw.2.2 0; go_simp; (first | done | with_reducible rfl)))
      simp only [Act.put, List.setIfInBounds_toArray, List.set_cons_zero, List.set_cons_succ]
      refine takeY (oi := { dst := some 36, op := Op.load 24 (Operand.tmp 3), type := 24, pos := "graph.go:56", after := #[], guard := none }) 6 (some 36) (v := ?v6_308) rfl rfl (by kernel_rfl) (by kernel_rfl) (by kernel_rfl) (fun _ _ _ h => h) (by kernel_rfl) ?hy308 hH0 ?_
      case hy308 => (intro w_ hSw; (try dsimp only at hSw); (have hk0 := blk_cell hSw.2.2 0; have hk1 := blk_cell hSw.2.2 1; have hk2 := blk_cell hSw.2.2 2; go_simp; (first | done | with_reducible rfl)))
      simp only [Act.put, List.setIfInBounds_toArray, List.set_cons_zero, List.set_cons_succ]
      refine wpAnyH_ready (rs := [7]) (by kernel_rfl) (by simp) ?_
      refine AllReadyH.cons (o := { dst := some 37, op := Op.call { callee := Callee.value (Operand.func 87), args := #[Operand.tmp 36], argTypes := #[24] }, type := 24, pos := "graph.go:56", after := #[{ on := 6, ground := Ground.data }], guard := none }) rfl (fun K1 hK1 => ?_) AllReadyH.nil
      go_simp; refine (graph_ownV_calls id s A c l _ (Kd.C_below HX.out (below_drew HE2.out)) (by omega)).mono ?_; rintro e w5 ⟨pv, rfl, hR, hb5⟩
      refine hK1.out _ _ ?hS309 (fun hH1 => ?_)
      case hS309 => ((try dsimp only); (exact ⟨hH0.1.trans (But.of_below _ hb5), blk_below hb5 hH0.2.1, blk_below hb5 hH0.2.2⟩))
      clear hK1 K1
      (try clear hH0)
      (try simp only [Act.put, List.setIfInBounds_toArray, List.set_cons_zero, List.set_cons_succ])
      refine wpAnyH_ready (rs := [8]) (by kernel_rfl) (by simp) ?_
      refine AllReadyH.cons (o := { dst := none, op := Op.mapUpdate 132 (Operand.tmp 33) (Operand.tmp 35) (Operand.tmp 37), type := 0, pos := "graph.go:56", after := #[{ on := 3, ground := Ground.data }, { on := 5, ground := Ground.data }, { on := 7, ground := Ground.data }, { on := 7, ground := Ground.chain }, { on := 0, ground := Ground.phase }, { on := 1, ground := Ground.phase }, { on := 2, ground := Ground.phase }, { on := 3, ground := Ground.phase }, { on := 4, ground := Ground.phase }, { on := 5, ground := Ground.phase }, { on := 6, ground := Ground.phase }, { on := 7, ground := Ground.phase }], guard := none }) rfl (fun K2 hK2 => ?_) AllReadyH.nil
      have HB5 := Lib.hid (keepB0 hb5 (below_drew HE2.out)); refine step_mput (by kernel_rfl) _ _ _ _ rfl 3 24 Try.underlying3 Try.underlying132 m1 V rfl (HV.out.below HB5.out) (by rw [hlen]; simp only [maxLen]; omega) id _ rfl rfl hwf (fun w6 hI hT => ?_)
      refine hK2.out _ _ ?hS310 (fun hH2 => ?_)
      case hS310 => ((try dsimp only); (exact ⟨hH1.1.trans (But.of_turned hT rfl), (But.of_turned (S := fun k => k = m1) hT rfl).blk hH1.2.1 (fun e => HG1.out.vm.noCells _ _ (by rw [← e]; exact HG1.out.blk)), (But.of_turned (S := fun k => k = m1) hT rfl).blk hH1.2.2 (fun e => HG1.out.vm.noCells _ _ (by rw [← e]; exact HK1.out))⟩))
      clear hK2 K2
      (try clear hH1)
      (try simp only [Act.put, List.setIfInBounds_toArray, List.set_cons_zero, List.set_cons_succ])
      refine wpAnyH_done (by kernel_rfl) ?_ _
      have hEnd := hH2
      clear hH2
      go_wp2
      go_ret
      rw [HD.out]
      refine ⟨rfl, ?_, hEnd.1⟩
      exact (HG.out.below HB5.out).putV (x := ⟨id, s, l⟩) HN.out (HZ.out.mono fun v y ⟨qv, e, hr⟩ => ⟨qv, e, Kd.R_below hr HB5.out⟩) hI (But.of_turned hT rfl) ⟨pv, rfl, Kd.R_lower hR (Nat.le_trans HG.out.base (below_drew HE2.out).size)⟩
  · rw [if_neg hc] at HD
    go_enter Try.func48, Try.ntmps48
    go_wp2_with (go_at_call 46; refine (graph_Check_calls s A _ c 1 l [id] _ hs (Kd.C_below HX.out HB0.out) HF.out ?hI).mono ?_; (case hI => exact C_boxg (Kd.int .i64) (by decide) _ _ (by simp) id #[.int .i64 id] _ rfl); rintro e w1 ⟨rfl, hb1⟩; have HB1 := Lib.hid (keepB0 hb1 HB0.out); clear hb1)
    go_ret
    rw [HD.out]
    exact ⟨rfl, HG.out.below HB1.out, But.of_below _ HB1.out⟩
end Go.Proofs.Ytonbnlfijmapfaa
/- graph.AddEdge. No condition but on sizes. -/
namespace Go.Proofs.Ytonbnlfijmapfaa
open Go.RowKit Go.Shelf Go.Proofs.YtonbnlfijmapfaaW.PrintWords
set_option linter.unusedVariables false
set_option linter.unusedSimpArgs false

theorem checkN_ids {label : ByteArray} {ps : List SPrp} {id x y : Int} (h : checkN label ps [id, x, y] = 0) : idOk id = true ∧ idOk x = true ∧ idOk y = true := by
  have h1 := (checkN_ok h).1
  simpa only [List.all_cons, List.all_nil, Bool.and_true, Bool.and_eq_true] using h1
def addE (vs : List SVert) (es : List SEdg) (x : SEdg) : List SEdg × Int :=
  if checkN x.f1 x.f4 [x.f0, x.f2, x.f3] = 0 then (if (findK SEdg.f0 es x.f0).isSome = true then (es, 31) else if (findK SVert.f0 vs x.f2).isSome = true ∧ (findK SVert.f0 vs x.f3).isSome = true then (insK SEdg.f0 x es, 0) else (es, 101)) else (es, checkN x.f1 x.f4 [x.f0, x.f2, x.f3])
section
variable {W W' : World} {B g m m1 m2 : Nat} {vs : List SVert} {es : List SEdg}
theorem VMap.look_ok (h : VMap W B m vs) {n : Int} (hw : (Lit.int .i64 n).wf = true) : ∃ (i : Int) (s : ByteArray) (A : Option Addr) (k c : Nat), ∀ W', Below W.heap.size W W' → (Instr.lookup 132 (.map (some m)) (.int .i64 n) true).run Try.prog W' = .ok (.tuple #[.agg #[.int .i64 i, .string s, .slice A k c], .bool (findK SVert.f0 vs n).isSome]) W' := by
  obtain ⟨V, hV, hZ⟩ := h
  have key := fun W' (hW : Below W.heap.size W W') => run_look_ok (w := W') Try.underlying3 Try.underlying132 (z := .agg #[.int .i64 0, .string ⟨#[]⟩, .slice none 0 0]) (by kernel_rfl) (hV.below hW) hw
  cases hf : findK SVert.f0 vs n with
  | none =>
    have hg := hZ.none hf
    refine ⟨0, ⟨#[]⟩, none, 0, 0, fun W' hW => ?_⟩
    have := key W' hW
    rw [hg] at this
    exact this
  | some x0 =>
    obtain ⟨val, hg, pv, rfl, hr⟩ := hZ.some hf
    obtain ⟨A, c, rfl⟩ := Kd.R_slice hr
    refine ⟨x0.f0, x0.f1, A, x0.f2.length, c, fun W' hW => ?_⟩
    have := key W' hW
    rw [hg] at this
    exact this
theorem EMap.look_ok (h : EMap W B m es) {n : Int} (hw : (Lit.int .i64 n).wf = true) : ∃ (i : Int) (s : ByteArray) (a b : Int) (A : Option Addr) (k c : Nat), ∀ W', Below W.heap.size W W' → (Instr.lookup 133 (.map (some m)) (.int .i64 n) true).run Try.prog W' = .ok (.tuple #[.agg #[.int .i64 i, .string s, .int .i64 a, .int .i64 b, .slice A k c], .bool (findK SEdg.f0 es n).isSome]) W' := by
  obtain ⟨V, hV, hZ⟩ := h
  have key := fun W' (hW : Below W.heap.size W W') => run_look_ok (w := W') Try.underlying3 Try.underlying133 (z := .agg #[.int .i64 0, .string ⟨#[]⟩, .int .i64 0, .int .i64 0, .slice none 0 0]) (by kernel_rfl) (hV.below hW) hw
  cases hf : findK SEdg.f0 es n with
  | none =>
    have hg := hZ.none hf
    refine ⟨0, ⟨#[]⟩, 0, 0, none, 0, 0, fun W' hW => ?_⟩
    have := key W' hW
    rw [hg] at this
    exact this
  | some x0 =>
    obtain ⟨val, hg, pv, rfl, hr⟩ := hZ.some hf
    obtain ⟨A, c, rfl⟩ := Kd.R_slice hr
    refine ⟨x0.f0, x0.f1, x0.f2, x0.f3, A, x0.f4.length, c, fun W' hW => ?_⟩
    have := key W' hW
    rw [hg] at this
    exact this
theorem GraphAt.putE (h : GraphAt W B g m1 m2 vs es) {x : SEdg} {val : Value} {V : List (Int × Value)} (hn : findK SEdg.f0 es x.f0 = none) (hZ : Zip (EAs W B) SEdg.f0 V es) (hI : IMap W' Try.prog 3 m2 (putI V x.f0 val)) (hb : But (fun k => k = m2) W W') (hv : EAs W B val x) : GraphAt W' B g m1 m2 vs (insK SEdg.f0 x es) := by
  have hnc : ∀ k, k = m2 → NoCells W k := fun k hk => by rw [hk]; exact h.em.noCells
  refine ⟨hb.blk h.blk (fun hs => hnc g hs _ _ h.blk), h.low, h.ne, h.vm.but hb (fun e => h.ne e) hnc, ⟨putI V x.f0 val, hI, ?_⟩⟩
  have hm : ∀ v y, EAs W B v y → EAs W' B v y := fun v y ⟨pv, e, hr⟩ => ⟨pv, e, hb.row hr hnc⟩
  have := Zip.ins (K := EAs W' B) (key := SEdg.f0) rfl (hm _ _ hv) ((hZ.mono hm).del x.f0)
  rw [delK_none hn] at this
  exact this
end

set_option maxRecDepth 100000 in
set_option maxHeartbeats 8000000 in
theorem graph_AddEdge_calls (B g m1 m2 : Nat) (vs : List SVert) (es : List SEdg) (id : Int) (s : ByteArray) (x y : Int) (A : Option Addr) (c : Nat) (l : List SPrp) (w : World) (hG : GraphAt w B g m1 m2 vs es) (h : kPrp.C w A l.length l) (hf : fits l) (hs : s.size ≤ 2000000) (hn : es.length ≤ 1000000) :
    Calls Try.prog 49 #[.pointer (some ⟨g, 0, none⟩), .agg #[.int .i64 id, .string s, .int .i64 x, .int .i64 y, .slice A l.length c]] w fun e w' => e = .returned (.int .i64 (addE vs es ⟨id, s, x, y, l⟩).2) ∧ GraphAt w' B g m1 m2 vs (addE vs es ⟨id, s, x, y, l⟩).1 ∧ But (fun k => k = m2) w w' := by
  have HX := Lib.hid h; clear h
  have HF := Lib.hid hf; clear hf
  have HG := Lib.hid hG; clear hG
  have HD := Lib.hid (show addE vs es ⟨id, s, x, y, l⟩ = (if checkN s l [id, x, y] = 0 then (if (findK SEdg.f0 es id).isSome = true then (es, 31) else if (findK SVert.f0 vs x).isSome = true ∧ (findK SVert.f0 vs y).isSome = true then (insK SEdg.f0 ⟨id, s, x, y, l⟩ es, 0) else (es, 101)) else (es, checkN s l [id, x, y])) from rfl)
  have HB0 := Lib.hid (keepB0 (below_al (w.alloc (.cells #[.int .i64 id, .string s, .int .i64 x, .int .i64 y, .slice A l.length c] 35)) (.cells #[.int .i64 id, .int .i64 x, .int .i64 y] 3)) (below_al w (.cells #[.int .i64 id, .string s, .int .i64 x, .int .i64 y, .slice A l.length c] 35)))
  by_cases hc : checkN s l [id, x, y] = 0
  · rw [if_pos hc] at HD
    obtain ⟨i0, i1, i2⟩ := checkN_ids hc
    have hwf := wf_id i0
    have hwx := wf_id i1
    have hwy := wf_id i2
    have h16 := (propsRight_ok (checkN_ok hc).2.2).2
    clear i0 i1 i2
    obtain ⟨ei, es_, ea, eb, eA, ek, ec, hL0⟩ := HG.out.em.look_ok hwf
    obtain ⟨fi, fs, fA, fk, fc, hL1⟩ := HG.out.vm.look_ok hwx
    obtain ⟨ti, ts, tA, tk, tc, hL2⟩ := HG.out.vm.look_ok hwy
    have HN : Hid ((findK SEdg.f0 es id).isSome = false → findK SEdg.f0 es id = none) := Lib.hid (fun h => by simpa using h)
    generalize (findK SEdg.f0 es id).isSome = b0 at HD hL0 HN
    generalize (findK SVert.f0 vs x).isSome = b1 at HD hL1
    generalize (findK SVert.f0 vs y).isSome = b2 at HD hL2
    have HL0 := Lib.hid hL0; have HL1 := Lib.hid hL1; have HL2 := Lib.hid hL2
    clear hL0 hL1 hL2
    go_enter Try.func49, Try.ntmps49
    go_wp2_with (go_at_call 46; refine (graph_Check_calls s A _ c 3 l [id, x, y] _ hs (Kd.C_below HX.out HB0.out) HF.out ?hI).mono ?_; (case hI => exact C_boxesg (by simp) [id, x, y] .i64 (by simp)); rw [hc]; rintro e w1 ⟨rfl, hb1⟩; have HB1 := Lib.hid (keepB0 hb1 HB0.out); have HK1 := Lib.hid (blk_below hb1 (blk_alloc (blk_new w #[.int .i64 id, .string s, .int .i64 x, .int .i64 y, .slice A l.length c] 35) (.cells #[.int .i64 id, .int .i64 x, .int .i64 y] 3))); have HG1 := Lib.hid (HG.out.below HB1.out); clear hb1)
    refine wp_region_held_drew (S := (fun w' => Below w1.heap.size w1 w')) (by kernel_rfl) ?hS101 (fun hH0 => ?_)
    case hS101 => exact below_drew (Below.refl _ _)
    refine takeY (oi := { dst := some 28, op := Op.move (Operand.tmp 0), type := 80, pos := "graph.go:65", after := #[], guard := none }) 0 (some 28) (v := ?v0_102) rfl rfl (by kernel_rfl) (by kernel_rfl) (by kernel_rfl) (fun _ _ _ h => h) (by kernel_rfl) ?hy102 hH0 ?_
    case hy102 => (intro w_ hSw; (try dsimp only at hSw); go_simp; (first | done | with_reducible rfl | rw [if_neg (by omega)]))
    simp only [Act.put, List.setIfInBounds_toArray, List.set_cons_zero, List.set_cons_succ]
    refine takeY (oi := { dst := some 29, op := Op.nilCheck (Operand.tmp 28), type := 0, pos := "graph.go:65", after := #[{ on := 0, ground := Ground.data }], guard := none }) 1 (some 29) (v := ?v1_103) rfl rfl (by kernel_rfl) (by kernel_rfl) (by kernel_rfl) (fun _ _ _ h => h) (by kernel_rfl) ?hy103 hH0 ?_
    case hy103 => (intro w_ hSw; (try dsimp only at hSw); go_simp; (first | done | with_reducible rfl | rw [if_neg (by omega)]))
    simp only [Act.put, List.setIfInBounds_toArray, List.set_cons_zero, List.set_cons_succ]
    refine takeY (oi := { dst := some 30, op := Op.fieldAddr 135 (Operand.tmp 29) 1, type := 0, pos := "graph.go:65", after := #[{ on := 1, ground := Ground.data }], guard := none }) 2 (some 30) (v := ?v2_104) rfl rfl (by kernel_rfl) (by kernel_rfl) (by kernel_rfl) (fun _ _ _ h => h) (by kernel_rfl) ?hy104 hH0 ?_
    case hy104 => (intro w_ hSw; (try dsimp only at hSw); go_simp; (first | done | with_reducible rfl | rw [if_neg (by omega)]))
    simp only [Act.put, List.setIfInBounds_toArray, List.set_cons_zero, List.set_cons_succ]
    refine takeY (oi := { dst := some 31, op := Op.load 133 (Operand.tmp 30), type := 133, pos := "graph.go:65", after := #[{ on := 2, ground := Ground.data }], guard := none }) 3 (some 31) (v := ?v3_105) rfl rfl (by kernel_rfl) (by kernel_rfl) (by kernel_rfl) (fun _ _ _ h => h) (by kernel_rfl) ?hy105 hH0 ?_
    case hy105 => (intro w_ hSw; (try dsimp only at hSw); (have hk := blk_cell (blk_below hSw HG1.out.blk) 1; go_simp; (first | done | with_reducible rfl)))
    simp only [Act.put, List.setIfInBounds_toArray, List.set_cons_zero, List.set_cons_succ]
    refine takeY (oi := { dst := some 32, op := Op.fieldAddr 35 (Operand.tmp 3) 0, type := 0, pos := "graph.go:65", after := #[], guard := none }) 4 (some 32) (v := ?v4_106) rfl rfl (by kernel_rfl) (by kernel_rfl) (by kernel_rfl) (fun _ _ _ h => h) (by kernel_rfl) ?hy106 hH0 ?_
    case hy106 => (intro w_ hSw; (try dsimp only at hSw); go_simp; (first | done | with_reducible rfl | rw [if_neg (by omega)]))
    simp only [Act.put, List.setIfInBounds_toArray, List.set_cons_zero, List.set_cons_succ]
    refine takeY (oi := { dst := some 33, op := Op.load 3 (Operand.tmp 32), type := 3, pos := "graph.go:65", after := #[{ on := 4, ground := Ground.data }], guard := none }) 5 (some 33) (v := ?v5_107) rfl rfl (by kernel_rfl) (by kernel_rfl) (by kernel_rfl) (fun _ _ _ h => h) (by kernel_rfl) ?hy107 hH0 ?_
    case hy107 => (intro w_ hSw; (try dsimp only at hSw); (have hk := blk_cell (blk_below hSw HK1.out) 0; go_simp; (first | done | with_reducible rfl)))
    simp only [Act.put, List.setIfInBounds_toArray, List.set_cons_zero, List.set_cons_succ]
    refine takeY (oi := { dst := some 34, op := Op.lookup 133 (Operand.tmp 31) (Operand.tmp 33) true, type := 75, pos := "graph.go:65", after := #[{ on := 3, ground := Ground.data }, { on := 5, ground := Ground.data }], guard := none }) 6 (some 34) (v := ?v6_108) rfl rfl (by kernel_rfl) (by kernel_rfl) (by kernel_rfl) (fun _ _ _ h => h) (by kernel_rfl) ?hy108 hH0 ?_
    case hy108 => (intro w_ hSw; (try dsimp only at hSw); (have hl := HL0.out _ (keepB0 hSw HB1.out); go_simp; (first | done | with_reducible rfl)))
    simp only [Act.put, List.setIfInBounds_toArray, List.set_cons_zero, List.set_cons_succ]
    refine takeY (oi := { dst := some 27, op := Op.move (Operand.tmp 34), type := 75, pos := "graph.go:65", after := #[{ on := 6, ground := Ground.data }], guard := none }) 7 (some 27) (v := ?v7_109) rfl rfl (by kernel_rfl) (by kernel_rfl) (by kernel_rfl) (fun _ _ _ h => h) (by kernel_rfl) ?hy109 hH0 ?_
    case hy109 => (intro w_ hSw; (try dsimp only at hSw); go_simp; (first | done | with_reducible rfl | rw [if_neg (by omega)]))
    simp only [Act.put, List.setIfInBounds_toArray, List.set_cons_zero, List.set_cons_succ]
    refine takeY (oi := { dst := some 35, op := Op.extract (Operand.tmp 27) 0, type := 35, pos := "graph.go:65", after := #[{ on := 7, ground := Ground.data }], guard := none }) 8 (some 35) (v := ?v8_110) rfl rfl (by kernel_rfl) (by kernel_rfl) (by kernel_rfl) (fun _ _ _ h => h) (by kernel_rfl) ?hy110 hH0 ?_
    case hy110 => (intro w_ hSw; (try dsimp only at hSw); go_simp; (first | done | with_reducible rfl | rw [if_neg (by omega)]))
    simp only [Act.put, List.setIfInBounds_toArray, List.set_cons_zero, List.set_cons_succ]
    refine takeY (oi := { dst := some 36, op := Op.extract (Operand.tmp 27) 1, type := 4, pos := "graph.go:65", after := #[{ on := 7, ground := Ground.data }, { on := 11, ground := Ground.gcOnly Departure.lateStores }], guard := none }) 9 (some 36) (v := ?v9_111) rfl rfl (by kernel_rfl) (by kernel_rfl) (by kernel_rfl) (fun _ _ _ h => h) (by kernel_rfl) ?hy111 hH0 ?_
    case hy111 => (intro w_ hSw; (try dsimp only at hSw); go_simp; (first | done | with_reducible rfl | rw [if_neg (by omega)]))
    simp only [Act.put, List.setIfInBounds_toArray, List.set_cons_zero, List.set_cons_succ]
    refine wpAnyH_ready (rs := [10]) (by kernel_rfl) (by simp) ?_
    refine AllReadyH.cons (o := { dst := some 6, op := Op.alloc 35, type := 0, pos := "graph.go:65", after := #[], guard := none }) rfl (fun K1 hK1 => ?_) AllReadyH.nil
    go_simp
    refine hK1.out _ _ ?hS112 (fun hH1 => ?_)
    case hS112 => ((try dsimp only); (exact keepB0 (below_al _ _) hH0))
    clear hK1 K1
    (try clear hH0)
    (try simp only [Act.put, List.setIfInBounds_toArray, List.set_cons_zero, List.set_cons_succ])
    refine wpAnyH_ready (rs := [11]) (by kernel_rfl) (by simp) ?_
    refine AllReadyH.cons (o := { dst := none, op := Op.store 35 (Operand.tmp 6) (Operand.tmp 35), type := 0, pos := "graph.go:65", after := #[{ on := 10, ground := Ground.data }, { on := 8, ground := Ground.data }, { on := 0, ground := Ground.phase }, { on := 1, ground := Ground.phase }, { on := 2, ground := Ground.phase }, { on := 3, ground := Ground.phase }, { on := 4, ground := Ground.phase }, { on := 5, ground := Ground.phase }, { on := 6, ground := Ground.phase }, { on := 7, ground := Ground.phase }, { on := 8, ground := Ground.phase }, { on := 9, ground := Ground.textOnly Departure.lateStores }, { on := 10, ground := Ground.phase }], guard := none }) rfl (fun K2 hK2 => ?_) AllReadyH.nil
    go_simp
    refine hK2.out _ _ ?hS113 (fun hH2 => ?_)
    case hS113 => ((try dsimp only); ((first | exact keepB0 (below_al _ _) (below_drew (Below.refl _ _)) | exact keepB0 (below_al _ _) (below_drew HE.out) | exact below_set5 hH1 (Nat.le_refl _) _ _ _)))
    clear hK2 K2
    (try clear hH1)
    (try simp only [Act.put, List.setIfInBounds_toArray, List.set_cons_zero, List.set_cons_succ])
    refine takeY (oi := { dst := some 7, op := Op.assign (Operand.tmp 36), type := 4, pos := "graph.go:65", after := #[{ on := 9, ground := Ground.data }, { on := 11, ground := Ground.chain }, { on := 0, ground := Ground.phase }, { on := 1, ground := Ground.phase }, { on := 2, ground := Ground.phase }, { on := 3, ground := Ground.phase }, { on := 4, ground := Ground.phase }, { on := 5, ground := Ground.phase }, { on := 6, ground := Ground.phase }, { on := 7, ground := Ground.phase }, { on := 8, ground := Ground.phase }, { on := 9, ground := Ground.phase }, { on := 10, ground := Ground.phase }, { on := 11, ground := Ground.phase }], guard := none }) 12 (some 7) (v := ?v12_114) rfl rfl (by kernel_rfl) (by kernel_rfl) (by kernel_rfl) (fun _ _ _ h => h) (by kernel_rfl) ?hy114 hH2 ?_
    case hy114 => (intro w_ hSw; (try dsimp only at hSw); go_simp; (first | done | with_reducible rfl | rw [if_neg (by omega)]))
    simp only [Act.put, List.setIfInBounds_toArray, List.set_cons_zero, List.set_cons_succ]
    refine wpAnyH_done (by kernel_rfl) ?_ _
    have hEnd := hH2
    clear hH2
    have HE := Lib.hid hEnd
    clear hEnd
    go_wp2_with fail
    refine wp_region_held_drew (S := (fun w' => Below w1.heap.size w1 w')) (by kernel_rfl) ?hS201 (fun hH0 => ?_)
    case hS201 => exact below_drew HE.out
    refine takeY (oi := { dst := some 38, op := Op.move (Operand.tmp 0), type := 80, pos := "graph.go:66", after := #[], guard := none }) 0 (some 38) (v := ?v0_202) rfl rfl (by kernel_rfl) (by kernel_rfl) (by kernel_rfl) (fun _ _ _ h => h) (by kernel_rfl) ?hy202 hH0 ?_
    case hy202 => (intro w_ hSw; (try dsimp only at hSw); go_simp; (first | done | with_reducible rfl | rw [if_neg (by omega)]))
    simp only [Act.put, List.setIfInBounds_toArray, List.set_cons_zero, List.set_cons_succ]
    refine takeY (oi := { dst := some 39, op := Op.nilCheck (Operand.tmp 38), type := 0, pos := "graph.go:66", after := #[{ on := 0, ground := Ground.data }], guard := none }) 1 (some 39) (v := ?v1_203) rfl rfl (by kernel_rfl) (by kernel_rfl) (by kernel_rfl) (fun _ _ _ h => h) (by kernel_rfl) ?hy203 hH0 ?_
    case hy203 => (intro w_ hSw; (try dsimp only at hSw); go_simp; (first | done | with_reducible rfl | rw [if_neg (by omega)]))
    simp only [Act.put, List.setIfInBounds_toArray, List.set_cons_zero, List.set_cons_succ]
    refine takeY (oi := { dst := some 40, op := Op.fieldAddr 135 (Operand.tmp 39) 0, type := 0, pos := "graph.go:66", after := #[{ on := 1, ground := Ground.data }], guard := none }) 2 (some 40) (v := ?v2_204) rfl rfl (by kernel_rfl) (by kernel_rfl) (by kernel_rfl) (fun _ _ _ h => h) (by kernel_rfl) ?hy204 hH0 ?_
    case hy204 => (intro w_ hSw; (try dsimp only at hSw); go_simp; (first | done | with_reducible rfl | rw [if_neg (by omega)]))
    simp only [Act.put, List.setIfInBounds_toArray, List.set_cons_zero, List.set_cons_succ]
    refine takeY (oi := { dst := some 41, op := Op.load 132 (Operand.tmp 40), type := 132, pos := "graph.go:66", after := #[{ on := 2, ground := Ground.data }], guard := none }) 3 (some 41) (v := ?v3_205) rfl rfl (by kernel_rfl) (by kernel_rfl) (by kernel_rfl) (fun _ _ _ h => h) (by kernel_rfl) ?hy205 hH0 ?_
    case hy205 => (intro w_ hSw; (try dsimp only at hSw); (have hk := blk_cell (blk_below hSw HG1.out.blk) 0; go_simp; (first | done | with_reducible rfl)))
    simp only [Act.put, List.setIfInBounds_toArray, List.set_cons_zero, List.set_cons_succ]
    refine takeY (oi := { dst := some 42, op := Op.fieldAddr 35 (Operand.tmp 3) 2, type := 0, pos := "graph.go:66", after := #[], guard := none }) 4 (some 42) (v := ?v4_206) rfl rfl (by kernel_rfl) (by kernel_rfl) (by kernel_rfl) (fun _ _ _ h => h) (by kernel_rfl) ?hy206 hH0 ?_
    case hy206 => (intro w_ hSw; (try dsimp only at hSw); go_simp; (first | done | with_reducible rfl | rw [if_neg (by omega)]))
    simp only [Act.put, List.setIfInBounds_toArray, List.set_cons_zero, List.set_cons_succ]
    refine takeY (oi := { dst := some 43, op := Op.load 3 (Operand.tmp 42), type := 3, pos := "graph.go:66", after := #[{ on := 4, ground := Ground.data }], guard := none }) 5 (some 43) (v := ?v5_207) rfl rfl (by kernel_rfl) (by kernel_rfl) (by kernel_rfl) (fun _ _ _ h => h) (by kernel_rfl) ?hy207 hH0 ?_
    case hy207 => (intro w_ hSw; (try dsimp only at hSw); (have hk := blk_cell (blk_below hSw HK1.out) 2; go_simp; (first | done | with_reducible rfl)))
    simp only [Act.put, List.setIfInBounds_toArray, List.set_cons_zero, List.set_cons_succ]
    refine takeY (oi := { dst := some 44, op := Op.lookup 132 (Operand.tmp 41) (Operand.tmp 43) true, type := 73, pos := "graph.go:66", after := #[{ on := 3, ground := Ground.data }, { on := 5, ground := Ground.data }], guard := none }) 6 (some 44) (v := ?v6_208) rfl rfl (by kernel_rfl) (by kernel_rfl) (by kernel_rfl) (fun _ _ _ h => h) (by kernel_rfl) ?hy208 hH0 ?_
    case hy208 => (intro w_ hSw; (try dsimp only at hSw); (have hl := HL1.out _ (keepB0 hSw HB1.out); go_simp; (first | done | with_reducible rfl)))
    simp only [Act.put, List.setIfInBounds_toArray, List.set_cons_zero, List.set_cons_succ]
    refine takeY (oi := { dst := some 37, op := Op.move (Operand.tmp 44), type := 73, pos := "graph.go:66", after := #[{ on := 6, ground := Ground.data }], guard := none }) 7 (some 37) (v := ?v7_209) rfl rfl (by kernel_rfl) (by kernel_rfl) (by kernel_rfl) (fun _ _ _ h => h) (by kernel_rfl) ?hy209 hH0 ?_
    case hy209 => (intro w_ hSw; (try dsimp only at hSw); go_simp; (first | done | with_reducible rfl | rw [if_neg (by omega)]))
    simp only [Act.put, List.setIfInBounds_toArray, List.set_cons_zero, List.set_cons_succ]
    refine takeY (oi := { dst := some 45, op := Op.extract (Operand.tmp 37) 0, type := 24, pos := "graph.go:66", after := #[{ on := 7, ground := Ground.data }], guard := none }) 8 (some 45) (v := ?v8_210) rfl rfl (by kernel_rfl) (by kernel_rfl) (by kernel_rfl) (fun _ _ _ h => h) (by kernel_rfl) ?hy210 hH0 ?_
    case hy210 => (intro w_ hSw; (try dsimp only at hSw); go_simp; (first | done | with_reducible rfl | rw [if_neg (by omega)]))
    simp only [Act.put, List.setIfInBounds_toArray, List.set_cons_zero, List.set_cons_succ]
    refine takeY (oi := { dst := some 46, op := Op.extract (Operand.tmp 37) 1, type := 4, pos := "graph.go:66", after := #[{ on := 7, ground := Ground.data }, { on := 11, ground := Ground.gcOnly Departure.lateStores }], guard := none }) 9 (some 46) (v := ?v9_211) rfl rfl (by kernel_rfl) (by kernel_rfl) (by kernel_rfl) (fun _ _ _ h => h) (by kernel_rfl) ?hy211 hH0 ?_
    case hy211 => (intro w_ hSw; (try dsimp only at hSw); go_simp; (first | done | with_reducible rfl | rw [if_neg (by omega)]))
    simp only [Act.put, List.setIfInBounds_toArray, List.set_cons_zero, List.set_cons_succ]
    refine wpAnyH_ready (rs := [10]) (by kernel_rfl) (by simp) ?_
    refine AllReadyH.cons (o := { dst := some 8, op := Op.alloc 24, type := 0, pos := "graph.go:66", after := #[], guard := none }) rfl (fun K1 hK1 => ?_) AllReadyH.nil
    go_simp
    refine hK1.out _ _ ?hS212 (fun hH1 => ?_)
    case hS212 => ((try dsimp only); (exact keepB0 (below_al _ _) hH0))
    clear hK1 K1
    (try clear hH0)
    (try simp only [Act.put, List.setIfInBounds_toArray, List.set_cons_zero, List.set_cons_succ])
    refine wpAnyH_ready (rs := [11]) (by kernel_rfl) (by simp) ?_
    refine AllReadyH.cons (o := { dst := none, op := Op.store 24 (Operand.tmp 8) (Operand.tmp 45), type := 0, pos := "graph.go:66", after := #[{ on := 10, ground := Ground.data }, { on := 8, ground := Ground.data }, { on := 0, ground := Ground.phase }, { on := 1, ground := Ground.phase }, { on := 2, ground := Ground.phase }, { on := 3, ground := Ground.phase }, { on := 4, ground := Ground.phase }, { on := 5, ground := Ground.phase }, { on := 6, ground := Ground.phase }, { on := 7, ground := Ground.phase }, { on := 8, ground := Ground.phase }, { on := 9, ground := Ground.textOnly Departure.lateStores }, { on := 10, ground := Ground.phase }], guard := none }) rfl (fun K2 hK2 => ?_) AllReadyH.nil
    go_simp
    refine hK2.out _ _ ?hS213 (fun hH2 => ?_)
    case hS213 => ((try dsimp only); ((first | exact keepB0 (below_al _ _) (below_drew (Below.refl _ _)) | exact keepB0 (below_al _ _) (below_drew HE.out) | exact below_set3 hH1 (Nat.le_refl _) _ _ _)))
    clear hK2 K2
    (try clear hH1)
    (try simp only [Act.put, List.setIfInBounds_toArray, List.set_cons_zero, List.set_cons_succ])
    refine takeY (oi := { dst := some 9, op := Op.assign (Operand.tmp 46), type := 4, pos := "graph.go:66", after := #[{ on := 9, ground := Ground.data }, { on := 11, ground := Ground.chain }, { on := 0, ground := Ground.phase }, { on := 1, ground := Ground.phase }, { on := 2, ground := Ground.phase }, { on := 3, ground := Ground.phase }, { on := 4, ground := Ground.phase }, { on := 5, ground := Ground.phase }, { on := 6, ground := Ground.phase }, { on := 7, ground := Ground.phase }, { on := 8, ground := Ground.phase }, { on := 9, ground := Ground.phase }, { on := 10, ground := Ground.phase }, { on := 11, ground := Ground.phase }], guard := none }) 12 (some 9) (v := ?v12_214) rfl rfl (by kernel_rfl) (by kernel_rfl) (by kernel_rfl) (fun _ _ _ h => h) (by kernel_rfl) ?hy214 hH2 ?_
    case hy214 => (intro w_ hSw; (try dsimp only at hSw); go_simp; (first | done | with_reducible rfl | rw [if_neg (by omega)]))
    simp only [Act.put, List.setIfInBounds_toArray, List.set_cons_zero, List.set_cons_succ]
    refine wpAnyH_done (by kernel_rfl) ?_ _
    have hEnd := hH2
    clear hH2
    replace HE := Lib.hid hEnd
    clear hEnd
    go_wp2_with fail
    refine wp_region_held_drew (S := (fun w' => Below w1.heap.size w1 w')) (by kernel_rfl) ?hS301 (fun hH0 => ?_)
    case hS301 => exact below_drew HE.out
    refine takeY (oi := { dst := some 48, op := Op.move (Operand.tmp 0), type := 80, pos := "graph.go:67", after := #[], guard := none }) 0 (some 48) (v := ?v0_302) rfl rfl (by kernel_rfl) (by kernel_rfl) (by kernel_rfl) (fun _ _ _ h => h) (by kernel_rfl) ?hy302 hH0 ?_
    case hy302 => (intro w_ hSw; (try dsimp only at hSw); go_simp; (first | done | with_reducible rfl | rw [if_neg (by omega)]))
    simp only [Act.put, List.setIfInBounds_toArray, List.set_cons_zero, List.set_cons_succ]
    refine takeY (oi := { dst := some 49, op := Op.nilCheck (Operand.tmp 48), type := 0, pos := "graph.go:67", after := #[{ on := 0, ground := Ground.data }], guard := none }) 1 (some 49) (v := ?v1_303) rfl rfl (by kernel_rfl) (by kernel_rfl) (by kernel_rfl) (fun _ _ _ h => h) (by kernel_rfl) ?hy303 hH0 ?_
    case hy303 => (intro w_ hSw; (try dsimp only at hSw); go_simp; (first | done | with_reducible rfl | rw [if_neg (by omega)]))
    simp only [Act.put, List.setIfInBounds_toArray, List.set_cons_zero, List.set_cons_succ]
    refine takeY (oi := { dst := some 50, op := Op.fieldAddr 135 (Operand.tmp 49) 0, type := 0, pos := "graph.go:67", after := #[{ on := 1, ground := Ground.data }], guard := none }) 2 (some 50) (v := ?v2_304) rfl rfl (by kernel_rfl) (by kernel_rfl) (by kernel_rfl) (fun _ _ _ h => h) (by kernel_rfl) ?hy304 hH0 ?_
    case hy304 => (intro w_ hSw; (try dsimp only at hSw); go_simp; (first | done | with_reducible rfl | rw [if_neg (by omega)]))
    simp only [Act.put, List.setIfInBounds_toArray, List.set_cons_zero, List.set_cons_succ]
    refine takeY (oi := { dst := some 51, op := Op.load 132 (Operand.tmp 50), type := 132, pos := "graph.go:67", after := #[{ on := 2, ground := Ground.data }], guard := none }) 3 (some 51) (v := ?v3_305) rfl rfl (by kernel_rfl) (by kernel_rfl) (by kernel_rfl) (fun _ _ _ h => h) (by kernel_rfl) ?hy305 hH0 ?_
    case hy305 => (intro w_ hSw; (try dsimp only at hSw); (have hk := blk_cell (blk_below hSw HG1.out.blk) 0; go_simp; (first | done | with_reducible rfl)))
    simp only [Act.put, List.setIfInBounds_toArray, List.set_cons_zero, List.set_cons_succ]
    refine takeY (oi := { dst := some 52, op := Op.fieldAddr 35 (Operand.tmp 3) 3, type := 0, pos := "graph.go:67", after := #[], guard := none }) 4 (some 52) (v := ?v4_306) rfl rfl (by kernel_rfl) (by kernel_rfl) (by kernel_rfl) (fun _ _ _ h => h) (by kernel_rfl) ?hy306 hH0 ?_
    case hy306 => (intro w_ hSw; (try dsimp only at hSw); go_simp; (first | done | with_reducible rfl | rw [if_neg (by omega)]))
    simp only [Act.put, List.setIfInBounds_toArray, List.set_cons_zero, List.set_cons_succ]
    refine takeY (oi := { dst := some 53, op := Op.load 3 (Operand.tmp 52), type := 3, pos := "graph.go:67", after := #[{ on := 4, ground := Ground.data }], guard := none }) 5 (some 53) (v := ?v5_307) rfl rfl (by kernel_rfl) (by kernel_rfl) (by kernel_rfl) (fun _ _ _ h => h) (by kernel_rfl) ?hy307 hH0 ?_
    case hy307 => (intro w_ hSw; (try dsimp only at hSw); (have hk := blk_cell (blk_below hSw HK1.out) 3; go_simp; (first | done | with_reducible rfl)))
    simp only [Act.put, List.setIfInBounds_toArray, List.set_cons_zero, List.set_cons_succ]
    refine takeY (oi := { dst := some 54, op := Op.lookup 132 (Operand.tmp 51) (Operand.tmp 53) true, type := 73, pos := "graph.go:67", after := #[{ on := 3, ground := Ground.data }, { on := 5, ground := Ground.data }], guard := none }) 6 (some 54) (v := ?v6_308) rfl rfl (by kernel_rfl) (by kernel_rfl) (by kernel_rfl) (fun _ _ _ h => h) (by kernel_rfl) ?hy308 hH0 ?_
    case hy308 => (intro w_ hSw; (try dsimp only at hSw); (have hl := HL2.out _ (keepB0 hSw HB1.out); go_simp; (first | done | with_reducible rfl)))
    simp only [Act.put, List.setIfInBounds_toArray, List.set_cons_zero, List.set_cons_succ]
    refine takeY (oi := { dst := some 47, op := Op.move (Operand.tmp 54), type := 73, pos := "graph.go:67", after := #[{ on := 6, ground := Ground.data }], guard := none }) 7 (some 47) (v := ?v7_309) rfl rfl (by kernel_rfl) (by kernel_rfl) (by kernel_rfl) (fun _ _ _ h => h) (by kernel_rfl) ?hy309 hH0 ?_
    case hy309 => (intro w_ hSw; (try dsimp only at hSw); go_simp; (first | done | with_reducible rfl | rw [if_neg (by omega)]))
    simp only [Act.put, List.setIfInBounds_toArray, List.set_cons_zero, List.set_cons_succ]
    refine takeY (oi := { dst := some 55, op := Op.extract (Operand.tmp 47) 0, type := 24, pos := "graph.go:67", after := #[{ on := 7, ground := Ground.data }], guard := none }) 8 (some 55) (v := ?v8_310) rfl rfl (by kernel_rfl) (by kernel_rfl) (by kernel_rfl) (fun _ _ _ h => h) (by kernel_rfl) ?hy310 hH0 ?_
    case hy310 => (intro w_ hSw; (try dsimp only at hSw); go_simp; (first | done | with_reducible rfl | rw [if_neg (by omega)]))
    simp only [Act.put, List.setIfInBounds_toArray, List.set_cons_zero, List.set_cons_succ]
    refine takeY (oi := { dst := some 56, op := Op.extract (Operand.tmp 47) 1, type := 4, pos := "graph.go:67", after := #[{ on := 7, ground := Ground.data }, { on := 11, ground := Ground.gcOnly Departure.lateStores }], guard := none }) 9 (some 56) (v := ?v9_311) rfl rfl (by kernel_rfl) (by kernel_rfl) (by kernel_rfl) (fun _ _ _ h => h) (by kernel_rfl) ?hy311 hH0 ?_
    case hy311 => (intro w_ hSw; (try dsimp only at hSw); go_simp; (first | done | with_reducible rfl | rw [if_neg (by omega)]))
    simp only [Act.put, List.setIfInBounds_toArray, List.set_cons_zero, List.set_cons_succ]
    refine wpAnyH_ready (rs := [10]) (by kernel_rfl) (by simp) ?_
    refine AllReadyH.cons (o := { dst := some 10, op := Op.alloc 24, type := 0, pos := "graph.go:67", after := #[], guard := none }) rfl (fun K1 hK1 => ?_) AllReadyH.nil
    go_simp
    refine hK1.out _ _ ?hS312 (fun hH1 => ?_)
    case hS312 => ((try dsimp only); (exact keepB0 (below_al _ _) hH0))
    clear hK1 K1
    (try clear hH0)
    (try simp only [Act.put, List.setIfInBounds_toArray, List.set_cons_zero, List.set_cons_succ])
    refine wpAnyH_ready (rs := [11]) (by kernel_rfl) (by simp) ?_
    refine AllReadyH.cons (o := { dst := none, op := Op.store 24 (Operand.tmp 10) (Operand.tmp 55), type := 0, pos := "graph.go:67", after := #[{ on := 10, ground := Ground.data }, { on := 8, ground := Ground.data }, { on := 0, ground := Ground.phase }, { on := 1, ground := Ground.phase }, { on := 2, ground := Ground.phase }, { on := 3, ground := Ground.phase }, { on := 4, ground := Ground.phase }, { on := 5, ground := Ground.phase }, { on := 6, ground := Ground.phase }, { on := 7, ground := Ground.phase }, { on := 8, ground := Ground.phase }, { on := 9, ground := Ground.textOnly Departure.lateStores }, { on := 10, ground := Ground.phase }], guard := none }) rfl (fun K2 hK2 => ?_) AllReadyH.nil
    go_simp
    refine hK2.out _ _ ?hS313 (fun hH2 => ?_)
    case hS313 => ((try dsimp only); ((first | exact keepB0 (below_al _ _) (below_drew (Below.refl _ _)) | exact keepB0 (below_al _ _) (below_drew HE.out) | exact below_set3 hH1 (Nat.le_refl _) _ _ _)))
    clear hK2 K2
    (try clear hH1)
    (try simp only [Act.put, List.setIfInBounds_toArray, List.set_cons_zero, List.set_cons_succ])
    refine takeY (oi := { dst := some 11, op := Op.assign (Operand.tmp 56), type := 4, pos := "graph.go:67", after := #[{ on := 9, ground := Ground.data }, { on := 11, ground := Ground.chain }, { on := 0, ground := Ground.phase }, { on := 1, ground := Ground.phase }, { on := 2, ground := Ground.phase }, { on := 3, ground := Ground.phase }, { on := 4, ground := Ground.phase }, { on := 5, ground := Ground.phase }, { on := 6, ground := Ground.phase }, { on := 7, ground := Ground.phase }, { on := 8, ground := Ground.phase }, { on := 9, ground := Ground.phase }, { on := 10, ground := Ground.phase }, { on := 11, ground := Ground.phase }], guard := none }) 12 (some 11) (v := ?v12_314) rfl rfl (by kernel_rfl) (by kernel_rfl) (by kernel_rfl) (fun _ _ _ h => h) (by kernel_rfl) ?hy314 hH2 ?_
    case hy314 => (intro w_ hSw; (try dsimp only at hSw); go_simp; (first | done | with_reducible rfl | rw [if_neg (by omega)]))
    simp only [Act.put, List.setIfInBounds_toArray, List.set_cons_zero, List.set_cons_succ]
    refine wpAnyH_done (by kernel_rfl) ?_ _
    have hEnd := hH2
    clear hH2
    replace HE := Lib.hid hEnd
    clear hEnd
    have HE2 := Lib.hid (keepB0 HE.out HB1.out)
    cases b0 with
    | true =>
      rw [if_pos rfl] at HD
      go_wp2
      go_ret
      rw [HD.out]
      exact ⟨rfl, HG.out.below HE2.out, But.of_below _ HE2.out⟩
    | false =>
    rw [if_neg (by simp)] at HD
    cases b1 with
    | false =>
      rw [if_neg (by simp)] at HD
      go_wp2
      go_ret
      rw [HD.out]
      exact ⟨rfl, HG.out.below HE2.out, But.of_below _ HE2.out⟩
    | true =>
    cases b2 with
    | false =>
      rw [if_neg (by simp)] at HD
      go_wp2
      go_ret
      rw [HD.out]
      exact ⟨rfl, HG.out.below HE2.out, But.of_below _ HE2.out⟩
    | true =>
    rw [if_pos (by decide)] at HD
    obtain ⟨V, hV, hZ⟩ := HG.out.em
    have HV := Lib.hid hV; have HZ := Lib.hid hZ; clear hV hZ
    have hlen := HZ.out.length
    go_wp2_with fail
    refine wp_region_held_drew (S := (fun w' => But (fun k => k = m2) w w' ∧ Blk w' g #[.map (some m1), .map (some m2)] 135 ∧ Blk w' w.heap.size #[.int .i64 id, .string s, .int .i64 x, .int .i64 y, .slice A l.length c] 35)) (by kernel_rfl) ?hS401 (fun hH0 => ?_)
    case hS401 => exact ⟨But.of_below _ (below_drew HE2.out), blk_drew (blk_below HE.out HG1.out.blk), blk_drew (blk_below HE.out HK1.out)⟩
    refine takeY (oi := { dst := some 66, op := Op.move (Operand.tmp 0), type := 80, pos := "graph.go:74", after := #[], guard := none }) 0 (some 66) (v := ?v0_402) rfl rfl (by kernel_rfl) (by kernel_rfl) (by kernel_rfl) (fun _ _ _ h => h) (by kernel_rfl) ?hy402 hH0 ?_
    case hy402 => (intro w_ hSw; (try dsimp only at hSw); go_simp; (first | done | with_reducible rfl | rw [if_neg (by omega)]))
    simp only [Act.put, List.setIfInBounds_toArray, List.set_cons_zero, List.set_cons_succ]
    refine takeY (oi := { dst := some 67, op := Op.nilCheck (Operand.tmp 66), type := 0, pos := "graph.go:74", after := #[{ on := 0, ground := Ground.data }], guard := none }) 1 (some 67) (v := ?v1_403) rfl rfl (by kernel_rfl) (by kernel_rfl) (by kernel_rfl) (fun _ _ _ h => h) (by kernel_rfl) ?hy403 hH0 ?_
    case hy403 => (intro w_ hSw; (try dsimp only at hSw); go_simp; (first | done | with_reducible rfl | rw [if_neg (by omega)]))
    simp only [Act.put, List.setIfInBounds_toArray, List.set_cons_zero, List.set_cons_succ]
    refine takeY (oi := { dst := some 68, op := Op.fieldAddr 135 (Operand.tmp 67) 1, type := 0, pos := "graph.go:74", after := #[{ on := 1, ground := Ground.data }], guard := none }) 2 (some 68) (v := ?v2_404) rfl rfl (by kernel_rfl) (by kernel_rfl) (by kernel_rfl) (fun _ _ _ h => h) (by kernel_rfl) ?hy404 hH0 ?_
    case hy404 => (intro w_ hSw; (try dsimp only at hSw); go_simp; (first | done | with_reducible rfl | rw [if_neg (by omega)]))
    simp only [Act.put, List.setIfInBounds_toArray, List.set_cons_zero, List.set_cons_succ]
    refine takeY (oi := { dst := some 69, op := Op.load 133 (Operand.tmp 68), type := 133, pos := "graph.go:74", after := #[{ on := 2, ground := Ground.data }], guard := none }) 3 (some 69) (v := ?v3_405) rfl rfl (by kernel_rfl) (by kernel_rfl) (by kernel_rfl) (fun _ _ _ h => h) (by kernel_rfl) ?hy405 hH0 ?_
    case hy405 => (intro w_ hSw; (try dsimp only at hSw); (have hk := blk_cell hSw.2.1 1; go_simp; (first | done | with_reducible rfl)))
    simp only [Act.put, List.setIfInBounds_toArray, List.set_cons_zero, List.set_cons_succ]
    refine takeY (oi := { dst := some 70, op := Op.fieldAddr 35 (Operand.tmp 3) 0, type := 0, pos := "graph.go:74", after := #[], guard := none }) 4 (some 70) (v := ?v4_406) rfl rfl (by kernel_rfl) (by kernel_rfl) (by kernel_rfl) (fun _ _ _ h => h) (by kernel_rfl) ?hy406 hH0 ?_
    case hy406 => (intro w_ hSw; (try dsimp only at hSw); go_simp; (first | done | with_reducible rfl | rw [if_neg (by omega)]))
    simp only [Act.put, List.setIfInBounds_toArray, List.set_cons_zero, List.set_cons_succ]
    refine takeY (oi := { dst := some 71, op := Op.load 3 (Operand.tmp 70), type := 3, pos := "graph.go:74", after := #[{ on := 4, ground := Ground.data }], guard := none }) 5 (some 71) (v := ?v5_407) rfl rfl (by kernel_rfl) (by kernel_rfl) (by kernel_rfl) (fun _ _ _ h => h) (by kernel_rfl) ?hy407 hH0 ?_
    case hy407 => (intro w_ hSw; (try dsimp only at hSw); (have hk := blk_cell hSw.2.2 0; go_simp; (first | done | with_reducible rfl)))
    simp only [Act.put, List.setIfInBounds_toArray, List.set_cons_zero, List.set_cons_succ]
    refine takeY (oi := { dst := some 72, op := Op.load 35 (Operand.tmp 3), type := 35, pos := "graph.go:74", after := #[], guard := none }) 6 (some 72) (v := ?v6_408) rfl rfl (by kernel_rfl) (by kernel_rfl) (by kernel_rfl) (fun _ _ _ h => h) (by kernel_rfl) ?hy408 hH0 ?_
    case hy408 => (intro w_ hSw; (try dsimp only at hSw); (have hk0 := blk_cell hSw.2.2 0; have hk1 := blk_cell hSw.2.2 1; have hk2 := blk_cell hSw.2.2 2; have hk3 := blk_cell hSw.2.2 3; have hk4 := blk_cell hSw.2.2 4; go_simp; (first | done | with_reducible rfl)))
    simp only [Act.put, List.setIfInBounds_toArray, List.set_cons_zero, List.set_cons_succ]
    refine wpAnyH_ready (rs := [7]) (by kernel_rfl) (by simp) ?_
    refine AllReadyH.cons (o := { dst := some 73, op := Op.call { callee := Callee.value (Operand.func 88), args := #[Operand.tmp 72], argTypes := #[35] }, type := 35, pos := "graph.go:74", after := #[{ on := 6, ground := Ground.data }], guard := none }) rfl (fun K1 hK1 => ?_) AllReadyH.nil
    go_simp; refine (graph_ownE_calls id s x y A c l _ (Kd.C_below HX.out (below_drew HE2.out)) (by omega)).mono ?_; rintro e w5 ⟨pv, rfl, hR, hb5⟩
    refine hK1.out _ _ ?hS409 (fun hH1 => ?_)
    case hS409 => ((try dsimp only); (exact ⟨hH0.1.trans (But.of_below _ hb5), blk_below hb5 hH0.2.1, blk_below hb5 hH0.2.2⟩))
    clear hK1 K1
    (try clear hH0)
    (try simp only [Act.put, List.setIfInBounds_toArray, List.set_cons_zero, List.set_cons_succ])
    refine wpAnyH_ready (rs := [8]) (by kernel_rfl) (by simp) ?_
    refine AllReadyH.cons (o := { dst := none, op := Op.mapUpdate 133 (Operand.tmp 69) (Operand.tmp 71) (Operand.tmp 73), type := 0, pos := "graph.go:74", after := #[{ on := 3, ground := Ground.data }, { on := 5, ground := Ground.data }, { on := 7, ground := Ground.data }, { on := 7, ground := Ground.chain }, { on := 0, ground := Ground.phase }, { on := 1, ground := Ground.phase }, { on := 2, ground := Ground.phase }, { on := 3, ground := Ground.phase }, { on := 4, ground := Ground.phase }, { on := 5, ground := Ground.phase }, { on := 6, ground := Ground.phase }, { on := 7, ground := Ground.phase }], guard := none }) rfl (fun K2 hK2 => ?_) AllReadyH.nil
    have HB5 := Lib.hid (keepB0 hb5 (below_drew HE2.out)); refine step_mput (by kernel_rfl) _ _ _ _ rfl 3 35 Try.underlying3 Try.underlying133 m2 V rfl (HV.out.below HB5.out) (by rw [hlen]; simp only [maxLen]; omega) id _ rfl rfl hwf (fun w6 hI hT => ?_)
    refine hK2.out _ _ ?hS410 (fun hH2 => ?_)
    case hS410 => ((try dsimp only); (exact ⟨hH1.1.trans (But.of_turned hT rfl), (But.of_turned (S := fun k => k = m2) hT rfl).blk hH1.2.1 (fun e => HG1.out.em.noCells _ _ (by rw [← e]; exact HG1.out.blk)), (But.of_turned (S := fun k => k = m2) hT rfl).blk hH1.2.2 (fun e => HG1.out.em.noCells _ _ (by rw [← e]; exact HK1.out))⟩))
    clear hK2 K2
    (try clear hH1)
    (try simp only [Act.put, List.setIfInBounds_toArray, List.set_cons_zero, List.set_cons_succ])
    refine wpAnyH_done (by kernel_rfl) ?_ _
    have hEnd := hH2
    clear hH2
    go_wp2
    go_ret
    rw [HD.out]
    refine ⟨rfl, ?_, hEnd.1⟩
    exact (HG.out.below HB5.out).putE (x := ⟨id, s, x, y, l⟩) (HN.out (by trivial)) (HZ.out.mono fun v y ⟨qv, e, hr⟩ => ⟨qv, e, Kd.R_below hr HB5.out⟩) hI (But.of_turned hT rfl) ⟨pv, rfl, Kd.R_lower hR (Nat.le_trans HG.out.base (below_drew HE2.out).size)⟩
  · rw [if_neg hc] at HD
    go_enter Try.func49, Try.ntmps49
    go_wp2_with (go_at_call 46; refine (graph_Check_calls s A _ c 3 l [id, x, y] _ hs (Kd.C_below HX.out HB0.out) HF.out ?hI).mono ?_; (case hI => exact C_boxesg (by simp) [id, x, y] .i64 (by simp)); rintro e w1 ⟨rfl, hb1⟩; have HB1 := Lib.hid (keepB0 hb1 HB0.out); clear hb1)
    go_ret
    rw [HD.out]
    exact ⟨rfl, HG.out.below HB1.out, But.of_below _ HB1.out⟩
end Go.Proofs.Ytonbnlfijmapfaa
/- Plain: what a loop over a map has met, in whichever order; sorted ids. No condition. -/
namespace Go.Proofs.Ytonbnlfijmapfaa
open Go

theorem todo_perm : ∀ {l : List (Int × Value)} {n : Int} {v : Value}, Srt l → (n, v) ∈ l → l.Perm ((n, v) :: delI l n)
  | [], n, v, _, h => by simp at h
  | y :: r, n, v, hs, h => by
    obtain ⟨h1, h2⟩ := List.pairwise_cons.1 hs
    rcases List.mem_cons.1 h with e | h
    · subst e
      have : delI ((n, v) :: r) n = r := by
        simp only [delI, List.filter_cons, bne_self_eq_false, Bool.false_eq_true, if_false]
        rw [List.filter_eq_self]
        intro z hz
        have := h1 z hz
        simp only [bne_iff_ne, ne_eq]
        intro e
        simp only at this
        omega
      rw [this]
    · have hy : y.1 ≠ n := by have := h1 _ h; simp only at this; omega
      have e : delI (y :: r) n = y :: delI r n := by simp only [delI, List.filter_cons, (by simpa using hy : (y.1 != n) = true), if_true]
      rw [e]
      exact ((todo_perm h2 h).cons y).trans (List.Perm.swap _ _ _)
theorem srt_filter {l : List (Int × Value)} (hs : Srt l) (f : Int × Value → Bool) : Srt (l.filter f) := List.Pairwise.filter _ hs
/-- One more is met. -/
theorem met_step {todo : List (Int × Value)} {n : Int} {v : Value} {q : Int → Bool} {out all : List Int} (hs : Srt todo) (hm : (n, v) ∈ todo) (h : (out ++ (todo.map (·.1)).filter q).Perm all) :
    ((if q n = true then out ++ [n] else out) ++ ((delI todo n).map (·.1)).filter q).Perm all := by
  refine List.Perm.trans ?_ h
  have h1 := ((todo_perm hs hm).map (·.1)).filter q
  simp only [List.map_cons, List.filter_cons] at h1
  by_cases hq : q n = true
  · rw [if_pos hq] at h1 ⊢
    refine List.Perm.trans ?_ (h1.symm.append_left out)
    rw [List.append_assoc]
    exact List.Perm.refl _
  · rw [if_neg hq] at h1 ⊢
    exact h1.symm.append_left out
theorem sorted_unique : ∀ {a b : List Int}, a.Perm b → a.Pairwise (· ≤ ·) → b.Pairwise (· ≤ ·) → a = b := by
  intro a b h h1 h2
  exact h.eq_of_pairwise (fun x y _ _ hx hy => Int.le_antisymm hx hy) h1 h2
theorem mergeSort_sorted (l : List Int) : (l.mergeSort fun x y => decide (x ≤ y)).Pairwise (· ≤ ·) := by
  have := List.pairwise_mergeSort (le := fun x y : Int => decide (x ≤ y)) (fun a b c h1 h2 => by simp only [decide_eq_true_eq] at *; omega) (fun a b => by simp only [Bool.or_eq_true, decide_eq_true_eq]; omega) l
  exact this.imp (fun h => by simpa using h)
theorem mergeSort_of_perm {l m : List Int} (h : l.Perm m) (hm : m.Pairwise (· < ·)) : (l.mergeSort fun x y => decide (x ≤ y)) = m :=
  sorted_unique ((List.mergeSort_perm l _).trans h) (mergeSort_sorted l) (hm.imp (fun h => Int.le_of_lt h))
end Go.Proofs.Ytonbnlfijmapfaa
/- The closures of graph.Out and graph.In. No condition. -/
namespace Go.Proofs.Ytonbnlfijmapfaa
open Go.RowKit Go.Shelf Go.Proofs.YtonbnlfijmapfaaW.PrintWords
set_option linter.unusedVariables false
set_option linter.unusedSimpArgs false


set_option maxRecDepth 100000 in
set_option maxHeartbeats 1000000 in
theorem graph_Out1_calls (i : Int) (s : ByteArray) (x y : Int) (v : Value) (b : Nat) (id : Int) (w : World) (hc : w.cell? ⟨b, 0, none⟩ = some (.int .i64 id)) :
    Calls Try.prog 110 #[.agg #[.int .i64 i, .string s, .int .i64 x, .int .i64 y, v], .pointer (some ⟨b, 0, none⟩)] w fun e w' => e = .returned (.bool (decide (x = id))) ∧ Below w.heap.size w w' := by
  have hc2 := fun o => pw_cell_below (below_al w o) hc
  have K := blk_new w #[.int .i64 i, .string s, .int .i64 x, .int .i64 y, v] 35
  have k2 := blk_cell K 2
  simp only [List.getElem?_toArray, List.getElem?_cons_zero, List.getElem?_cons_succ] at k2
  clear K
  go_enter Try.func110, Try.ntmps110
  go_wp2
  go_ret
  exact ⟨ret_bool (by first | rfl | (simp; done)), below_al _ _⟩
theorem enters_Out1 : ∀ args w, (callFunc 110 args).run Try.prog w = .ok (.enter 110 args) w := enters_of Try.func110 (by kernel_rfl) rfl

set_option maxRecDepth 100000 in
set_option maxHeartbeats 1000000 in
theorem graph_In1_calls (i : Int) (s : ByteArray) (x y : Int) (v : Value) (b : Nat) (id : Int) (w : World) (hc : w.cell? ⟨b, 0, none⟩ = some (.int .i64 id)) :
    Calls Try.prog 111 #[.agg #[.int .i64 i, .string s, .int .i64 x, .int .i64 y, v], .pointer (some ⟨b, 0, none⟩)] w fun e w' => e = .returned (.bool (decide (y = id))) ∧ Below w.heap.size w w' := by
  have hc2 := fun o => pw_cell_below (below_al w o) hc
  have K := blk_new w #[.int .i64 i, .string s, .int .i64 x, .int .i64 y, v] 35
  have k2 := blk_cell K 3
  simp only [List.getElem?_toArray, List.getElem?_cons_zero, List.getElem?_cons_succ] at k2
  clear K
  go_enter Try.func111, Try.ntmps111
  go_wp2
  go_ret
  exact ⟨ret_bool (by first | rfl | (simp; done)), below_al _ _⟩
theorem enters_In1 : ∀ args w, (callFunc 111 args).run Try.prog w = .ok (.enter 111 args) w := enters_of Try.func111 (by kernel_rfl) rfl

end Go.Proofs.Ytonbnlfijmapfaa
/- slices.Sort at ints, laid for this program (numbers of the seat's own: printed by a scratch command out of the shelf's shelf_lay_g). No condition. -/
namespace Go.Proofs.Ytonbnlfijmapfaa
open Go.Shelf
set_option maxRecDepth 100000
def Try_sortI_ren : Go.Shelf.Ren := ⟨fun | 5 => 97 | 8 => 126 | 7 => 125 | 19 => 146 | 20 => 147 | 10 => 137 | 11 => 138 | 12 => 139 | 13 => 140 | 14 => 141 | 15 => 142 | 16 => 143 | 17 => 144 | 18 => 145 | 30 => 151 | 31 => 152 | 32 => 153 | 33 => 154 | 34 => 155 | 35 => 156 | 40 => 158 | n => n, fun | 23 => 49 | 25 => 3 | 3 => 3 | 32 => 163 | 22 => 49 | 0 => 0 | 44 => 199 | 46 => 121 | 4 => 4 | 36 => 193 | 35 => 192 | 41 => 158 | 5 => 5 | 9 => 9 | 53 => 203 | 57 => 207 | 63 => 210 | 64 => 211 | n => n, fun | n => n⟩
theorem Try_sortI : Go.Proofs.SlLaysM.n5 Try.prog Try_sortI_ren where
  mixed := by kernel_rfl
  f5 := ⟨"slices.Sort[[]int,int]", by decide, Try.func97.trans (congrArg some (by kernel_rfl))⟩
  f7 := ⟨"slices.pdqsortOrdered[int]", by decide, Try.func125.trans (congrArg some (by kernel_rfl))⟩
  f8 := Try.func126.trans (congrArg some (by kernel_rfl))
  f10 := ⟨"slices.insertionSortOrdered[int]", by decide, Try.func137.trans (congrArg some (by kernel_rfl))⟩
  f11 := ⟨"slices.heapSortOrdered[int]", by decide, Try.func138.trans (congrArg some (by kernel_rfl))⟩
  f12 := ⟨"slices.breakPatternsOrdered[int]", by decide, Try.func139.trans (congrArg some (by kernel_rfl))⟩
  f13 := ⟨"slices.choosePivotOrdered[int]", by decide, Try.func140.trans (congrArg some (by kernel_rfl))⟩
  f14 := ⟨"slices.reverseRangeOrdered[int]", by decide, Try.func141.trans (congrArg some (by kernel_rfl))⟩
  f15 := ⟨"slices.partialInsertionSortOrdered[int]", by decide, Try.func142.trans (congrArg some (by kernel_rfl))⟩
  f16 := ⟨"cmp.Less[int]", by decide, Try.func143.trans (congrArg some (by kernel_rfl))⟩
  f17 := ⟨"slices.partitionEqualOrdered[int]", by decide, Try.func144.trans (congrArg some (by kernel_rfl))⟩
  f18 := ⟨"slices.partitionOrdered[int]", by decide, Try.func145.trans (congrArg some (by kernel_rfl))⟩
  f19 := Try.func146.trans (congrArg some (by kernel_rfl))
  f20 := Try.func147.trans (congrArg some (by kernel_rfl))
  f30 := ⟨"slices.siftDownOrdered[int]", by decide, Try.func151.trans (congrArg some (by kernel_rfl))⟩
  f31 := Try.func152.trans (congrArg some (by kernel_rfl))
  f32 := Try.func153.trans (congrArg some (by kernel_rfl))
  f33 := ⟨"slices.medianAdjacentOrdered[int]", by decide, Try.func154.trans (congrArg some (by kernel_rfl))⟩
  f34 := ⟨"slices.medianOrdered[int]", by decide, Try.func155.trans (congrArg some (by kernel_rfl))⟩
  f35 := ⟨"cmp.isNaN[int]", by decide, Try.func156.trans (congrArg some (by kernel_rfl))⟩
  f40 := ⟨"slices.order2Ordered[int]", by decide, Try.func158.trans (congrArg some (by kernel_rfl))⟩
  t0 := Try.underlying0
  a0 := Try.isAgg0
  z0 := Try.sizeOf0
  v0 := Try.zeroValue0
  t3 := Try.underlying3
  a3 := Try.isAgg3
  z3 := Try.sizeOf3
  v3 := Try.zeroValue3
  t4 := Try.underlying4
  a4 := Try.isAgg4
  z4 := Try.sizeOf4
  v4 := Try.zeroValue4
  t5 := Try.underlying5
  a5 := Try.isAgg5
  z5 := Try.sizeOf5
  v5 := Try.zeroValue5
  t9 := Try.underlying9
  a9 := Try.isAgg9
  z9 := Try.sizeOf9
  v9 := Try.zeroValue9
  t22 := Try.underlying49
  a22 := Try.isAgg49
  z22 := Try.sizeOf49
  v22 := Try.zeroValue49
  t23 := Try.underlying49
  a23 := Try.isAgg49
  z23 := Try.sizeOf49
  v23 := Try.zeroValue49
  t25 := Try.underlying3
  a25 := Try.isAgg3
  z25 := Try.sizeOf3
  v25 := Try.zeroValue3
  t32 := Try.underlying163
  a32 := Try.isAgg163
  z32 := Try.sizeOf163
  v32 := Try.zeroValue163
  t35 := Try.underlying192
  a35 := Try.isAgg192
  z35 := Try.sizeOf192
  v35 := Try.zeroValue192
  t36 := Try.underlying193
  a36 := Try.isAgg193
  z36 := Try.sizeOf193
  v36 := Try.zeroValue193
  t41 := Try.underlying158
  a41 := Try.isAgg158
  z41 := Try.sizeOf158
  v41 := Try.zeroValue158
  t44 := Try.underlying199
  a44 := Try.isAgg199
  z44 := Try.sizeOf199
  v44 := Try.zeroValue199
  t46 := Try.underlying121
  a46 := Try.isAgg121
  z46 := Try.sizeOf121
  v46 := Try.zeroValue121
  t53 := Try.underlying203
  a53 := Try.isAgg203
  z53 := Try.sizeOf203
  v53 := Try.zeroValue203
  t57 := Try.underlying207
  a57 := Try.isAgg207
  z57 := Try.sizeOf207
  v57 := Try.zeroValue207
  t63 := Try.underlying210
  a63 := Try.isAgg210
  z63 := Try.sizeOf210
  v63 := Try.zeroValue210
  t64 := Try.underlying211
  a64 := Try.isAgg211
  z64 := Try.sizeOf211
  v64 := Try.zeroValue211
end Go.Proofs.Ytonbnlfijmapfaa
/- slices.Sort at ints of the call's own. No condition but on sizes. -/
namespace Go.Proofs.Ytonbnlfijmapfaa
open Go.RowKit Go.Shelf Go.Proofs.YtonbnlfijmapfaaW.PrintWords
set_option linter.unusedVariables false
set_option linter.unusedSimpArgs false

/-- Sorted. -/
def srt (l : List Int) : List Int := l.mergeSort fun x y => decide (x ≤ y)
theorem srt_length (l : List Int) : (srt l).length = l.length := by rw [srt, List.length_mergeSort]
theorem sort_ints_calls (v : Value) (l : List Int) (base : Nat) (w : World) (hR : (Kd.int .i64).R 3 w base (fun _ => True) v l) (hl : l.length ≤ 1000000) :
    Calls Try.prog 97 #[v] w fun e w' => e = .returned (.tuple #[]) ∧ (Kd.int .i64).R 3 w' base (fun _ => True) v (srt l) ∧ w.grownBy w' v.ownBlock := by
  have ho := Kd.own_of_R hR
  rcases ho.2 with ⟨rfl, h0⟩ | ⟨g, cap, cur, rfl, hg, hh, hc1, hc2, hc3, hc4⟩
  · have hn : l = [] := List.eq_nil_of_length_eq_zero h0
    subst hn
    refine (AnyM.slices_Sort_int_none Try_sortI none 0 w).mono ?_
    rintro e w' ⟨rfl, rfl⟩
    exact ⟨rfl, by rw [show srt [] = [] by simp [srt]]; exact Kd.R_nil _ _ _ _ _, World.grownBy.refl _ _⟩
  · have hH : Go.Sort.Holds (Value.int .i64) w g 0 l.toArray := holds_of_blockI hh (by simpa [encs] using hc4)
    refine (AnyM.slices_Sort_int Try_sortI g 0 cap l w hH (Array.getElem?_eq_some_iff.1 hh).1 (by omega)).mono ?_
    rintro e w' ⟨rfl, n, os, rfl⟩
    refine ⟨rfl, ?_, grownBy_sortedI _⟩
    have hs := ownsRow_sortedI (n := n) (os := os) (ss := l) (ts := srt l) (srt_length l) hg hh hc1 hc2 hc3
    refine Kd.R_of_own ?_ (fun _ _ => trivial)
    rw [srt_length]
    exact hs
end Go.Proofs.Ytonbnlfijmapfaa
/- graph.edges: the ids of those of which something is so, sorted. No condition but on sizes. -/
namespace Go.Proofs.Ytonbnlfijmapfaa
open Go.RowKit Go.Shelf Go.Proofs.YtonbnlfijmapfaaW.PrintWords
set_option linter.unusedVariables false
set_option linter.unusedSimpArgs false

theorem info_int : (Try.prog.info? 3).map (fun i => (i.zero, i.size, i.bytes)) = some (some (.int .i64 0), 1, 8) := by kernel_rfl
theorem Zip.sorted {α : Type} {K : Value → α → Prop} {key : α → Int} : ∀ {V : List (Int × Value)} {xs : List α}, Zip K key V xs → Srt V → xs.Pairwise (fun a b => key a < key b)
  | [], [], _, _ => List.Pairwise.nil
  | p :: V, y :: xs, h, hs => by
    obtain ⟨h1, h2⟩ := List.pairwise_cons.1 hs
    refine List.pairwise_cons.2 ⟨fun z hz => ?_, Zip.sorted h.2 h2⟩
    have key2 : ∀ {V : List (Int × Value)} {xs : List α} {z : α}, Zip K key V xs → z ∈ xs → ∃ q ∈ V, q.1 = key z := by
      intro V
      induction V with
      | nil => intro xs z h hz; cases xs with | nil => simp at hz | cons _ _ => exact h.elim
      | cons q V ih =>
        intro xs z h hz
        cases xs with
        | nil => exact h.elim
        | cons a xs =>
          rcases List.mem_cons.1 hz with rfl | hz
          · exact ⟨q, List.mem_cons_self, h.1.1⟩
          · obtain ⟨q', hq, e⟩ := ih h.2 hz
            exact ⟨q', List.mem_cons_of_mem _ hq, e⟩
    obtain ⟨q, hq, e⟩ := key2 h.2 hz
    have := h1 q hq
    rw [h.1.1, e] at this
    exact this
  | [], _ :: _, h, _ => h.elim
  | _ :: _, [], h, _ => h.elim
theorem Zip.keys {α : Type} {K : Value → α → Prop} {key : α → Int} : ∀ {V : List (Int × Value)} {xs : List α}, Zip K key V xs → V.map (·.1) = xs.map key
  | [], [], _ => rfl
  | p :: V, y :: xs, h => by rw [List.map_cons, List.map_cons, h.1.1, Zip.keys h.2]
  | [], _ :: _, h => h.elim
  | _ :: _, [], h => h.elim
/-- Is it so of the thing of this key? -/
def isSo {α : Type} (key : α → Int) (p : α → Bool) (xs : List α) (n : Int) : Bool := xs.any fun x => key x == n && p x
theorem isSo_at {α : Type} {key : α → Int} {p : α → Bool} {xs : List α} (hs : xs.Pairwise (fun a b => key a < key b)) {x : α} (hx : x ∈ xs) : isSo key p xs (key x) = p x := by
  rw [isSo, Bool.eq_iff_iff, List.any_eq_true]
  constructor
  · rintro ⟨y, hy, h⟩
    simp only [Bool.and_eq_true, beq_iff_eq] at h
    have : y = x := by
      induction xs with
      | nil => simp at hx
      | cons a r ih =>
        obtain ⟨h1, h2⟩ := List.pairwise_cons.1 hs
        rcases List.mem_cons.1 hx with e1 | hx' <;> rcases List.mem_cons.1 hy with e2 | hy'
        · rw [e1, e2]
        · have := h1 y hy'; rw [← e1] at this; omega
        · have := h1 x hx'; rw [← e2] at this; omega
        · exact ih h2 hx' hy'
    rw [← this]; exact h.2
  · intro h
    exact ⟨x, hx, by simp [h]⟩
theorem isSo_filter {α : Type} {key : α → Int} {p : α → Bool} {xs : List α} (hs : xs.Pairwise (fun a b => key a < key b)) : (xs.map key).filter (isSo key p xs) = (xs.filter p).map key := by
  rw [List.filter_map]
  congr 1
  refine List.filter_congr fun x hx => ?_
  exact isSo_at hs hx
theorem ids_sorted {α : Type} {key : α → Int} {p : α → Bool} {xs : List α} (hs : xs.Pairwise (fun a b => key a < key b)) : ((xs.filter p).map key).Pairwise (· < ·) := by
  rw [List.pairwise_map]
  exact hs.filter p
theorem IRange.noCells {w : World} {P : Program} {k : TypeId} {b r cnt : Nat} {l todo : List (Int × Value)} (h : IRange w P k b r l todo cnt) : NoCells w r := by
  obtain ⟨_, left, ⟨es, clock, since, seen, c0, hb, F, hn, hD, hr, rest⟩, _⟩ := h
  intro cells t e
  rw [hr] at e; cases e
theorem IRange.srt {w : World} {P : Program} {k : TypeId} {b r cnt : Nat} {l todo : List (Int × Value)} (h : IRange w P k b r l todo cnt) : Srt todo := by
  obtain ⟨hs, left, _, rfl⟩ := h
  exact srt_filter hs _
def RetInts (w : World) (l : List Int) (e : Ending) (w' : World) : Prop := ∃ v, e = .returned v ∧ (Kd.int .i64).R 3 w' w.heap.size (fun _ => True) v l ∧ Below w.heap.size w w'
end Go.Proofs.Ytonbnlfijmapfaa
/- graph.edges, walked. No condition but on sizes. -/
namespace Go.Proofs.Ytonbnlfijmapfaa
open Go.RowKit Go.Shelf Go.Proofs.YtonbnlfijmapfaaW.PrintWords
set_option linter.unusedVariables false
set_option linter.unusedSimpArgs false

/-- An edge's value, from its parts. -/
def mkE (c : SEdg × Option Addr × Nat) : Value := .agg #[.int .i64 c.1.f0, .string c.1.f1, .int .i64 c.1.f2, .int .i64 c.1.f3, .slice c.2.1 c.1.f4.length c.2.2]
theorem IRange.grown {α : Type} {d : Kd α} {w w' : World} {P : Program} {k : TypeId} {b r cnt e base : Nat} {l todo : List (Int × Value)} {ok : Nat → Prop} {v : Value} {xs : List α} (h : IRange w P k b r l todo cnt) (hR : d.R e w base ok v xs) (hg : w.grownBy w' v.ownBlock) : IRange w' P k b r l todo cnt :=
  h.same (hg.block b h.lt.1 (fun e => by obtain ⟨cells, hc⟩ := Kd.R_typed hR b e.symm; exact h.map.noCells _ _ hc)) (hg.block r h.lt.2 (fun e => by obtain ⟨cells, hc⟩ := Kd.R_typed hR r e.symm; exact h.noCells _ _ hc))
set_option maxRecDepth 100000 in
set_option maxHeartbeats 4000000 in
theorem graph_edges_calls (B g m1 m2 : Nat) (vs : List SVert) (es : List SEdg) (gf : Nat) (lb : Array Value) (eg : ∀ args w, (callFunc gf args).run Try.prog w = .ok (.enter gf args) w) (p : SEdg → Bool) (w : World) (hG : GraphAt w B g m1 m2 vs es)
    (hp : ∀ (W : World) (i : Int) (s : ByteArray) (x y : Int) (l : List SPrp) (v : Value), (⟨i, s, x, y, l⟩ : SEdg) ∈ es → Below w.heap.size w W → Calls Try.prog gf (#[.agg #[.int .i64 i, .string s, .int .i64 x, .int .i64 y, v]] ++ lb) W fun e w' => e = .returned (.bool (p ⟨i, s, x, y, l⟩)) ∧ Below W.heap.size W w') (hn : es.length ≤ 1000000) :
    Calls Try.prog 109 #[.pointer (some ⟨g, 0, none⟩), .func (.func gf) #[] lb] w (RetInts w ((es.filter p).map SEdg.f0)) := by
  have HG := Lib.hid hG; clear hG
  have HP := Lib.hid hp; clear hp
  obtain ⟨E, hE, hZ⟩ := HG.out.em
  have hlen := hZ.length
  have HS := Lib.hid (hZ.sorted hE.1)
  have HKK := Lib.hid hZ.keys
  have HI := Lib.hid hE
  have HINV : Hid (∀ n v, (n, v) ∈ E → ∃ c : SEdg × Option Addr × Nat, v = mkE c ∧ c.1 ∈ es ∧ c.1.f0 = n) := Lib.hid (fun n v hm => by
    obtain ⟨x, hx, e, pv, rfl, hr⟩ := hZ.mem hm
    obtain ⟨A, c, rfl⟩ := Kd.R_slice hr
    exact ⟨⟨x, A, c⟩, rfl, hx, e.symm⟩)
  clear hE hZ
  have hk1 := blk_cell HG.out.blk 1
  simp only [List.getElem?_toArray, List.getElem?_cons_zero, List.getElem?_cons_succ] at hk1
  go_enter Try.func109, Try.ntmps109
  go_wp2_with (at_range; refine wpList_mrange _ rfl _ 133 rfl 3 35 Try.underlying3 Try.underlying133 m2 E rfl HI.out ?_; intro w0 cnt0 hr0 hg0 hs0)
  go_frame
  have HR0 := Lib.hid hr0; clear hr0
  have HB0 := Lib.hid (show Below w.heap.size w w0 from (But.of_none (fun _ => False) hg0).low (fun _ h => h.elim) (Nat.le_refl _))
  clear hg0 hs0
  go_loopw [5] (fun s5 wr => ∃ (todo : List (Int × Value)) (cnt : Nat) (out : List Int), Hid (IRange wr Try.prog 3 m2 w.heap.size E todo cnt) ∧ Hid ((Kd.int .i64).R 3 wr w.heap.size (fun _ => True) s5 out) ∧ Hid ((out ++ (todo.map (·.1)).filter (isSo SEdg.f0 p es)).Perm ((E.map (·.1)).filter (isSo SEdg.f0 p es))) ∧ Hid (Below w.heap.size w wr)) (fun _ wr => wr.rangeLeft m2 w.heap.size)
  case atStart => exact ⟨E, cnt0, [], HR0, Lib.hid (Kd.R_nil _ _ _ _ _), Lib.hid (List.Perm.refl _), HB0⟩
  case round =>
    obtain ⟨todo, cnt, out, HR, HO, HM, HB⟩ := hrel
    go_wp2_with (at_next; refine wpList_mnextE _ mkE rfl _ rfl 3 Try.underlying3 m2 w.heap.size E todo cnt (fun n v hm => (HINV.out n v hm).imp (fun _ h => h.1)) rfl HR.out ?_ ?_)
    · intro hdone
      subst hdone
      have HM2 := Lib.hid (mergeSort_of_perm (by simpa using HM.out) (by rw [HKK.out, isSo_filter HS.out]; exact ids_sorted HS.out))
      have hol : out.length ≤ 1000000 := by
        have h1 := HM.out.length_eq
        simp only [List.map_nil, List.filter_nil, List.append_nil] at h1
        have h2 := List.length_filter_le (isSo SEdg.f0 p es) (E.map (·.1))
        rw [List.length_map] at h2
        omega
      go_wp2_with (go_at_call 97; refine (sort_ints_calls _ out w.heap.size _ HO.out hol).mono ?_; rintro e w9 ⟨rfl, hR9, hg9⟩; have HR9 := Lib.hid hR9; have HB9 := Lib.hid (HB.out.grown hg9 HB.out.size (own_base (Kd.own_of_R HO.out))); clear hR9 hg9)
      go_ret
      refine ⟨_, rfl, ?_, HB9.out⟩
      have e := HR9.out
      rw [srt, HM2.out, HKK.out, isSo_filter HS.out] at e
      exact e
    · intro n c A cc w1 cnt1 hm hIR1 hlt hg1 hs1 hen
      obtain ⟨i, s, x, y, l⟩ := c
      simp only [mkE] at hm hen ⊢
      have hmem := HINV.out n _ (HR.out.sub _ hm)
      obtain ⟨⟨⟨i2, s2, x2, y2, l2⟩, A2, cc2⟩, he, hin, hkey⟩ := hmem
      simp only at hin hkey
      simp only [mkE, Value.agg.injEq, Array.mk.injEq, List.cons.injEq, Value.int.injEq, Value.string.injEq, Value.slice.injEq, true_and, and_true] at he
      obtain ⟨rfl, rfl, rfl, rfl, rfl, -, rfl⟩ := he
      subst hkey
      have HIR := Lib.hid hIR1
      have hr1 : ∀ k, k = w.heap.size → NoCells wr k := fun k hk => by rw [hk]; exact HR.out.noCells
      have HO1 := Lib.hid ((But.of_grown (S := fun k => k = w.heap.size) hg1 rfl).row HO.out hr1)
      have HB1 := Lib.hid (HB.out.trans ((But.of_grown (S := fun k => k = w.heap.size) hg1 rfl).low (fun k hk => by omega) HB.out.size))
      have HSO := Lib.hid (isSo_at (p := p) HS.out hin)
      have HST := Lib.hid (met_step (v := .agg #[.int .i64 i, .string s, .int .i64 x, .int .i64 y, .slice A l.length cc]) HR.out.srt hm HM.out)
      have HC : Hid (∀ W, Below w1.heap.size w1 W → Calls Try.prog gf (#[.agg #[.int .i64 i, .string s, .int .i64 x, .int .i64 y, .slice A l.length cc]] ++ lb) W fun e w' => e = .returned (.bool (p ⟨i, s, x, y, l2⟩)) ∧ Below W.heap.size W w') := Lib.hid (fun W hW => HP.out W i s x y l2 _ hin (keepB0 hW HB1.out))
      simp only at HSO
      generalize p ⟨i, s, x, y, l2⟩ = b at HC HSO
      rw [HSO.out] at HST
      have HOL : Hid (out.length ≤ 1000000) := Lib.hid (by
        have h1 := HM.out.length_eq
        have h2 := List.length_filter_le (isSo SEdg.f0 p es) (E.map (·.1))
        rw [List.length_map] at h2
        rw [List.length_append] at h1
        omega)
      have HMZ : Hid (w1.rangeLeft m2 w.heap.size < wr.rangeLeft m2 w.heap.size) := Lib.hid (by rw [hIR1.left_eq, HR.out.left_eq]; exact hlt)
      clear hm hin hlt hg1 hs1 hIR1 hr1
      cases b with
      | true =>
        go_wp2_with (first
          | (go_at_fn gf; refine (HC.out _ ?hW).mono ?_; (case hW => exact below_al _ _); rintro e w2 ⟨rfl, hb2⟩; have HBb := Lib.hid (keepB0 hb2 (below_al w1 (.cells #[.int .i64 i, .string s, .int .i64 x, .int .i64 y, .slice A l.length cc] 35))); have HO2 := Lib.hid (Kd.R_below HO1.out HBb.out); have HB2 := Lib.hid (keepB0 HBb.out HB1.out); have HI2 := Lib.hid (HIR.out.below HBb.out); clear hb2)
          | (at_builtin; (refine app_one HO2.out info_int Try.underlying49 (M_int _) (fun _ _ => trivial) HB2.out.size ?aL rfl (by decide) (by decide) rfl rfl rfl rfl ?_); (case aL => have := HOL.out; omega); intro v3 w3 hR3 hb3 hg3 hat3; have HR3 := Lib.hid hR3; have HB3 := Lib.hid (HB2.out.trans hb3); have HI3 := Lib.hid (HI2.out.grown HO2.out hg3); clear hR3 hb3 hg3 hat3))
        go_roundw
        case rel => exact ⟨_, _, _, HI3, HR3, Lib.hid (by simpa using HST.out), HB3⟩
        case measure =>
          have h1 := HI3.out.left_eq
          have h2 := HIR.out.left_eq
          have h3 := HMZ.out
          rw [h1]; rw [h2] at h3; exact h3
      | false =>
        go_wp2_with (go_at_fn gf; refine (HC.out _ ?hW).mono ?_; (case hW => exact below_al _ _); rintro e w2 ⟨rfl, hb2⟩; have HBb := Lib.hid (keepB0 hb2 (below_al w1 (.cells #[.int .i64 i, .string s, .int .i64 x, .int .i64 y, .slice A l.length cc] 35))); clear hb2)
        go_roundw
        case rel => exact ⟨_, _, _, Lib.hid (HIR.out.below HBb.out), Lib.hid (Kd.R_below HO1.out HBb.out), Lib.hid (by simpa using HST.out), Lib.hid (keepB0 HBb.out HB1.out)⟩
        case measure =>
          have h1 := (HIR.out.below HBb.out).left_eq
          have h2 := HIR.out.left_eq
          have h3 := HMZ.out
          rw [h1]; rw [h2] at h3; exact h3
end Go.Proofs.Ytonbnlfijmapfaa
/- graph.Out, graph.In. No condition but on sizes. -/
namespace Go.Proofs.Ytonbnlfijmapfaa
open Go.RowKit Go.Shelf Go.Proofs.YtonbnlfijmapfaaW.PrintWords
set_option linter.unusedVariables false
set_option linter.unusedSimpArgs false

def outIds (es : List SEdg) (id : Int) : List Int := (es.filter fun x => decide (x.f2 = id)).map SEdg.f0
def inIds (es : List SEdg) (id : Int) : List Int := (es.filter fun x => decide (x.f3 = id)).map SEdg.f0

set_option maxRecDepth 100000 in
set_option maxHeartbeats 1000000 in
theorem graph_Out_calls (B g m1 m2 : Nat) (vs : List SVert) (es : List SEdg) (id : Int) (w : World) (hG : GraphAt w B g m1 m2 vs es) (hn : es.length ≤ 1000000) :
    Calls Try.prog 79 #[.pointer (some ⟨g, 0, none⟩), .int .i64 id] w (RetInts w (outIds es id)) := by
  have HG := Lib.hid hG; clear hG
  have HB := Lib.hid (below_al w (.cells #[.int .i64 id] 3))
  have HK := Lib.hid (blk_new w #[.int .i64 id] 3)
  go_enter Try.func79, Try.ntmps79
  go_wp2_with (go_at_call 109; refine (graph_edges_calls B g m1 m2 vs es 110 #[.pointer (some ⟨w.heap.size, 0, none⟩)] enters_Out1 (fun e => decide (e.f2 = id)) _ (HG.out.below HB.out) ?hp hn).mono ?_; (case hp => exact fun W i s x y l v _ hW => graph_Out1_calls i s x y v w.heap.size id W (blk_cell (blk_below hW HK.out) 0)); rintro e w1 ⟨v, rfl, hR, hb⟩; have HR := Lib.hid (Kd.R_lower (base' := w.heap.size) hR HB.out.size); have HB1 := Lib.hid (keepB0 hb HB.out); clear hR hb)
  go_ret
  exact ⟨v, rfl, HR.out, HB1.out⟩

set_option maxRecDepth 100000 in
set_option maxHeartbeats 1000000 in
theorem graph_In_calls (B g m1 m2 : Nat) (vs : List SVert) (es : List SEdg) (id : Int) (w : World) (hG : GraphAt w B g m1 m2 vs es) (hn : es.length ≤ 1000000) :
    Calls Try.prog 80 #[.pointer (some ⟨g, 0, none⟩), .int .i64 id] w (RetInts w (inIds es id)) := by
  have HG := Lib.hid hG; clear hG
  have HB := Lib.hid (below_al w (.cells #[.int .i64 id] 3))
  have HK := Lib.hid (blk_new w #[.int .i64 id] 3)
  go_enter Try.func80, Try.ntmps80
  go_wp2_with (go_at_call 109; refine (graph_edges_calls B g m1 m2 vs es 111 #[.pointer (some ⟨w.heap.size, 0, none⟩)] enters_In1 (fun e => decide (e.f3 = id)) _ (HG.out.below HB.out) ?hp hn).mono ?_; (case hp => exact fun W i s x y l v _ hW => graph_In1_calls i s x y v w.heap.size id W (blk_cell (blk_below hW HK.out) 0)); rintro e w1 ⟨v, rfl, hR, hb⟩; have HR := Lib.hid (Kd.R_lower (base' := w.heap.size) hR HB.out.size); have HB1 := Lib.hid (keepB0 hb HB.out); clear hR hb)
  go_ret
  exact ⟨v, rfl, HR.out, HB1.out⟩

end Go.Proofs.Ytonbnlfijmapfaa
/- graph.Edge, graph.Vertex. No condition but on sizes. -/
namespace Go.Proofs.Ytonbnlfijmapfaa
open Go.RowKit Go.Shelf Go.Proofs.YtonbnlfijmapfaaW.PrintWords
set_option linter.unusedVariables false
set_option linter.unusedSimpArgs false

def getE (es : List SEdg) (n : Int) : SEdg := (findK SEdg.f0 es n).getD ⟨0, ⟨#[]⟩, 0, 0, []⟩
def getV (vs : List SVert) (n : Int) : SVert := (findK SVert.f0 vs n).getD ⟨0, ⟨#[]⟩, []⟩
theorem EMap.look_row {W : World} {B m : Nat} {es : List SEdg} (h : EMap W B m es) {n : Int} (hw : (Lit.int .i64 n).wf = true) : ∃ (A : Option Addr) (c : Nat), kPrp.C W A (getE es n).f4.length (getE es n).f4 ∧
    ∀ W', Below W.heap.size W W' → (Instr.lookup 133 (.map (some m)) (.int .i64 n) true).run Try.prog W' = .ok (.tuple #[.agg #[.int .i64 (getE es n).f0, .string (getE es n).f1, .int .i64 (getE es n).f2, .int .i64 (getE es n).f3, .slice A (getE es n).f4.length c], .bool (findK SEdg.f0 es n).isSome]) W' := by
  obtain ⟨V, hV, hZ⟩ := h
  have key := fun W' (hW : Below W.heap.size W W') => run_look_ok (w := W') Try.underlying3 Try.underlying133 (z := .agg #[.int .i64 0, .string ⟨#[]⟩, .int .i64 0, .int .i64 0, .slice none 0 0]) (by kernel_rfl) (hV.below hW) hw
  unfold getE
  cases hf : findK SEdg.f0 es n with
  | none =>
    have hg := hZ.none hf
    refine ⟨none, 0, Kd.C_nil _ _, fun W' hW => ?_⟩
    have := key W' hW
    rw [hg] at this
    exact this
  | some x0 =>
    obtain ⟨val, hg, pv, rfl, hr⟩ := hZ.some hf
    obtain ⟨A, c, rfl, hle, hC⟩ := Kd.R_reads hr
    refine ⟨A, c, hC, fun W' hW => ?_⟩
    have := key W' hW
    rw [hg] at this
    exact this
def GotE (w : World) (x : SEdg) (b : Bool) (e : Ending) (w' : World) : Prop := ∃ v, e = .returned (.tuple #[.agg #[.int .i64 x.f0, .string x.f1, .int .i64 x.f2, .int .i64 x.f3, v], .bool b]) ∧ kPrp.R 117 w' w.heap.size (fun _ => True) v x.f4 ∧ Below w.heap.size w w'

set_option maxRecDepth 100000 in
set_option maxHeartbeats 2000000 in
theorem graph_Edge_calls (B g m1 m2 : Nat) (vs : List SVert) (es : List SEdg) (id : Int) (w : World) (hG : GraphAt w B g m1 m2 vs es) (hw : (Lit.int .i64 id).wf = true) (hz : (getE es id).f4.length ≤ 1000) :
    Calls Try.prog 82 #[.pointer (some ⟨g, 0, none⟩), .int .i64 id] w (GotE w (getE es id) (findK SEdg.f0 es id).isSome) := by
  obtain ⟨A, c, hC, hL⟩ := hG.em.look_row hw
  have HC := Lib.hid hC; clear hC
  have hl := hL _ (below_al w (.cells #[.int .i64 0, .string ⟨#[]⟩, .int .i64 0, .int .i64 0, .slice none 0 0] 35))
  have hk := blk_cell (blk_alloc hG.blk (.cells #[.int .i64 0, .string ⟨#[]⟩, .int .i64 0, .int .i64 0, .slice none 0 0] 35)) 1
  simp only [List.getElem?_toArray, List.getElem?_cons_zero, List.getElem?_cons_succ] at hk
  clear hL
  generalize (findK SEdg.f0 es id).isSome = b at hl ⊢
  generalize getE es id = X at hl hz HC ⊢
  obtain ⟨i, s, x, y, l⟩ := X
  simp only at hl hz HC
  have HB0 := Lib.hid (keepB0 (below_al (w.alloc (.cells #[.int .i64 0, .string ⟨#[]⟩, .int .i64 0, .int .i64 0, .slice none 0 0] 35)) (.cells #[.int .i64 i, .string s, .int .i64 x, .int .i64 y, .slice A l.length c] 35)) (below_al w (.cells #[.int .i64 0, .string ⟨#[]⟩, .int .i64 0, .int .i64 0, .slice none 0 0] 35)))
  have HK0 := Lib.hid (blk_alloc (blk_new w #[.int .i64 0, .string ⟨#[]⟩, .int .i64 0, .int .i64 0, .slice none 0 0] 35) (.cells #[.int .i64 i, .string s, .int .i64 x, .int .i64 y, .slice A l.length c] 35))
  go_enter Try.func82, Try.ntmps82
  go_wp2_with (go_at_call 88; refine (graph_ownE_calls i s x y A c l _ (Kd.C_below HC.out HB0.out) hz).mono ?_; rintro e w1 ⟨PV, rfl, hR, hb⟩; obtain ⟨A3, c3, rfl⟩ := Kd.R_slice hR; have HR := Lib.hid (Kd.R_lower (base' := w.heap.size) hR HB0.out.size); have HB := Lib.hid (keepB0 hb HB0.out); have HK := Lib.hid (blk_below hb HK0.out); clear hR hb; have hc0 := blk_cell HK.out 0; have hc1 := blk_cell HK.out 1; have hc2 := blk_cell HK.out 2; have hc3 := blk_cell HK.out 3; have hc4 := blk_cell HK.out 4; simp only [List.getElem?_toArray, List.getElem?_cons_zero, List.getElem?_cons_succ] at hc0 hc1 hc2 hc3 hc4; have hf0 := blk_frozen HK.out 0; have hf1 := blk_frozen HK.out 1; have hf2 := blk_frozen HK.out 2; have hf3 := blk_frozen HK.out 3; have hf4 := blk_frozen HK.out 4)
  have hK := blk_set5 HK.out (.int .i64 i) (.string s) (.int .i64 x) (.int .i64 y) (.slice A3 l.length c3)
  have k0 := blk_cell hK 0
  have k1 := blk_cell hK 1
  have k2 := blk_cell hK 2
  have k3 := blk_cell hK 3
  have k4 := blk_cell hK 4
  simp only [List.getElem?_toArray, List.getElem?_cons_zero, List.getElem?_cons_succ] at k0 k1 k2 k3 k4
  refine bodyPost_ret (v := .tuple #[.agg #[.int .i64 i, .string s, .int .i64 x, .int .i64 y, .slice A3 l.length c3], .bool b]) (by simp [results, Try.results82, go_sem, k0, k1, k2, k3, k4]) rfl ⟨.slice A3 l.length c3, rfl, ?_, ?_⟩
  · exact R_put5 HR.out HK.out (by decide) _ _ _ _ _
  · exact below_set5 HB.out (Nat.le_refl _) _ _ _ _ _
theorem VMap.look_row {W : World} {B m : Nat} {vs : List SVert} (h : VMap W B m vs) {n : Int} (hw : (Lit.int .i64 n).wf = true) : ∃ (A : Option Addr) (c : Nat), kPrp.C W A (getV vs n).f2.length (getV vs n).f2 ∧
    ∀ W', Below W.heap.size W W' → (Instr.lookup 132 (.map (some m)) (.int .i64 n) true).run Try.prog W' = .ok (.tuple #[.agg #[.int .i64 (getV vs n).f0, .string (getV vs n).f1, .slice A (getV vs n).f2.length c], .bool (findK SVert.f0 vs n).isSome]) W' := by
  obtain ⟨V, hV, hZ⟩ := h
  have key := fun W' (hW : Below W.heap.size W W') => run_look_ok (w := W') Try.underlying3 Try.underlying132 (z := .agg #[.int .i64 0, .string ⟨#[]⟩, .slice none 0 0]) (by kernel_rfl) (hV.below hW) hw
  unfold getV
  cases hf : findK SVert.f0 vs n with
  | none =>
    have hg := hZ.none hf
    refine ⟨none, 0, Kd.C_nil _ _, fun W' hW => ?_⟩
    have := key W' hW
    rw [hg] at this
    exact this
  | some x0 =>
    obtain ⟨val, hg, pv, rfl, hr⟩ := hZ.some hf
    obtain ⟨A, c, rfl, hle, hC⟩ := Kd.R_reads hr
    refine ⟨A, c, hC, fun W' hW => ?_⟩
    have := key W' hW
    rw [hg] at this
    exact this
def GotV (w : World) (x : SVert) (b : Bool) (e : Ending) (w' : World) : Prop := ∃ v, e = .returned (.tuple #[.agg #[.int .i64 x.f0, .string x.f1, v], .bool b]) ∧ kPrp.R 117 w' w.heap.size (fun _ => True) v x.f2 ∧ Below w.heap.size w w'

set_option maxRecDepth 100000 in
set_option maxHeartbeats 2000000 in
theorem graph_Vertex_calls (B g m1 m2 : Nat) (vs : List SVert) (es : List SEdg) (id : Int) (w : World) (hG : GraphAt w B g m1 m2 vs es) (hw : (Lit.int .i64 id).wf = true) (hz : (getV vs id).f2.length ≤ 1000) :
    Calls Try.prog 177 #[.pointer (some ⟨g, 0, none⟩), .int .i64 id] w (GotV w (getV vs id) (findK SVert.f0 vs id).isSome) := by
  obtain ⟨A, c, hC, hL⟩ := hG.vm.look_row hw
  have HC := Lib.hid hC; clear hC
  have hl := hL _ (below_al w (.cells #[.int .i64 0, .string ⟨#[]⟩, .slice none 0 0] 24))
  have hk := blk_cell (blk_alloc hG.blk (.cells #[.int .i64 0, .string ⟨#[]⟩, .slice none 0 0] 24)) 0
  simp only [List.getElem?_toArray, List.getElem?_cons_zero, List.getElem?_cons_succ] at hk
  clear hL
  generalize (findK SVert.f0 vs id).isSome = b at hl ⊢
  generalize getV vs id = X at hl hz HC ⊢
  obtain ⟨i, s, l⟩ := X
  simp only at hl hz HC
  have HB0 := Lib.hid (keepB0 (below_al (w.alloc (.cells #[.int .i64 0, .string ⟨#[]⟩, .slice none 0 0] 24)) (.cells #[.int .i64 i, .string s, .slice A l.length c] 24)) (below_al w (.cells #[.int .i64 0, .string ⟨#[]⟩, .slice none 0 0] 24)))
  have HK0 := Lib.hid (blk_alloc (blk_new w #[.int .i64 0, .string ⟨#[]⟩, .slice none 0 0] 24) (.cells #[.int .i64 i, .string s, .slice A l.length c] 24))
  go_enter Try.func177, Try.ntmps177
  go_wp2_with (go_at_call 87; refine (graph_ownV_calls i s A c l _ (Kd.C_below HC.out HB0.out) hz).mono ?_; rintro e w1 ⟨PV, rfl, hR, hb⟩; obtain ⟨A3, c3, rfl⟩ := Kd.R_slice hR; have HR := Lib.hid (Kd.R_lower (base' := w.heap.size) hR HB0.out.size); have HB := Lib.hid (keepB0 hb HB0.out); have HK := Lib.hid (blk_below hb HK0.out); clear hR hb; have hc0 := blk_cell HK.out 0; have hc1 := blk_cell HK.out 1; have hc2 := blk_cell HK.out 2; simp only [List.getElem?_toArray, List.getElem?_cons_zero, List.getElem?_cons_succ] at hc0 hc1 hc2; have hf0 := blk_frozen HK.out 0; have hf1 := blk_frozen HK.out 1; have hf2 := blk_frozen HK.out 2)
  have hK := blk_set3 HK.out (.int .i64 i) (.string s) (.slice A3 l.length c3)
  have k0 := blk_cell hK 0
  have k1 := blk_cell hK 1
  have k2 := blk_cell hK 2
  simp only [List.getElem?_toArray, List.getElem?_cons_zero, List.getElem?_cons_succ] at k0 k1 k2
  refine bodyPost_ret (v := .tuple #[.agg #[.int .i64 i, .string s, .slice A3 l.length c3], .bool b]) (by simp [results, Try.results177, go_sem, k0, k1, k2]) rfl ⟨.slice A3 l.length c3, rfl, ?_, ?_⟩
  · exact R_put3 HR.out HK.out (by decide) _ _ _
  · exact below_set3 HB.out (Nat.le_refl _) _ _ _
end Go.Proofs.Ytonbnlfijmapfaa
/- slices.Compact at ints of the call's own; sorted lists without twins. No condition but on sizes. -/
namespace Go.Proofs.Ytonbnlfijmapfaa
open Go.RowKit Go.Shelf Go.Proofs.YtonbnlfijmapfaaW.PrintWords
set_option linter.unusedVariables false
set_option linter.unusedSimpArgs false

def Try_compI_ren : Go.Shelf.Ren := ⟨fun | 20 => 98 | n => n, fun | 22 => 49 | n => n, fun | n => n⟩
set_option maxRecDepth 100000 in
theorem Try_compI : Lays2.n20 Try.prog Try_compI_ren where
  mixed := by kernel_rfl
  f20 := Try.func98.trans (congrArg some (by kernel_rfl))
  t0 := Try.underlying0
  a0 := Try.isAgg0
  z0 := Try.sizeOf0
  v0 := Try.zeroValue0
  t3 := Try.underlying3
  a3 := Try.isAgg3
  z3 := Try.sizeOf3
  v3 := Try.zeroValue3
  t4 := Try.underlying4
  a4 := Try.isAgg4
  z4 := Try.sizeOf4
  v4 := Try.zeroValue4
  t22 := Try.underlying49
  a22 := Try.isAgg49
  z22 := Try.sizeOf49
  v22 := Try.zeroValue49
  i3 := by kernel_rfl

theorem mem_compactUpTo (d : Array Int) (x : Int) : ∀ m, x ∈ Lib.compactUpTo d m ↔ ∃ j, j < m ∧ d[j]! = x
  | 0 => by simp [Lib.compactUpTo]
  | m + 1 => by
    rw [Lib.compactUpTo_succ, List.mem_append, mem_compactUpTo d x m]
    constructor
    · rintro (⟨j, hj, e⟩ | h)
      · exact ⟨j, by omega, e⟩
      · split at h
        · rw [List.mem_singleton] at h; exact ⟨m, by omega, h.symm⟩
        · simp at h
    · rintro ⟨j, hj, e⟩
      by_cases hjm : j < m
      · exact .inl ⟨j, hjm, e⟩
      · have : j = m := by omega
        subst this
        by_cases hk : Lib.keeps d j = true
        · right; rw [if_pos hk]; simp [e]
        · left
          simp only [Lib.keeps, decide_eq_true_eq, not_or, ne_eq, Decidable.not_not] at hk
          exact ⟨j - 1, by omega, by rw [← hk.2]; exact e⟩
theorem mem_compact {l : List Int} {x : Int} : x ∈ Lib.compact l ↔ x ∈ l := by
  rw [Lib.compact, mem_compactUpTo]
  constructor
  · rintro ⟨j, hj, e⟩
    have : l.toArray[j]! = l[j] := by simp [hj]
    rw [← e, this]; exact List.getElem_mem hj
  · intro h
    obtain ⟨j, hj, e⟩ := List.mem_iff_getElem.1 h
    exact ⟨j, hj, by simp [hj, e]⟩
theorem compactUpTo_strict (d : Array Int) : ∀ m, (∀ i j, i ≤ j → j < m → d[i]! ≤ d[j]!) → (Lib.compactUpTo d m).Pairwise (· < ·)
  | 0, _ => by simp [Lib.compactUpTo]
  | m + 1, h => by
    rw [Lib.compactUpTo_succ]
    refine List.pairwise_append.2 ⟨compactUpTo_strict d m (fun i j h1 h2 => h i j h1 (by omega)), by split <;> simp, fun x hx y hy => ?_⟩
    split at hy
    · rename_i hk
      rw [List.mem_singleton] at hy
      subst hy
      obtain ⟨j, hj, rfl⟩ := (mem_compactUpTo d x m).1 hx
      simp only [Lib.keeps, decide_eq_true_eq] at hk
      have h1 := h j (m - 1) (by omega) (by omega)
      have h2 := h (m - 1) m (by omega) (by omega)
      rcases hk with hk | hk <;> omega
    · simp at hy
theorem compact_strict {l : List Int} (h : l.Pairwise (· ≤ ·)) : (Lib.compact l).Pairwise (· < ·) := by
  refine compactUpTo_strict _ _ (fun i j hij hj => ?_)
  have hi : i < l.length := by omega
  have h1 : l.toArray[i]! = l[i] := by simp [hi]
  have h2 : l.toArray[j]! = l[j] := by simp [hj]
  rw [h1, h2]
  rcases Nat.lt_or_eq_of_le hij with h3 | h3
  · exact List.pairwise_iff_getElem.1 h i j _ _ h3
  · subst h3; exact Int.le_refl _
/-- Sorted, each once. -/
def sortU (l : List Int) : List Int := Lib.compact (srt l)
theorem mem_srt {l : List Int} {x : Int} : x ∈ srt l ↔ x ∈ l := (List.mergeSort_perm l _).mem_iff
theorem mem_sortU {l : List Int} {x : Int} : x ∈ sortU l ↔ x ∈ l := by rw [sortU, mem_compact, mem_srt]
theorem sortU_strict (l : List Int) : (sortU l).Pairwise (· < ·) := compact_strict (mergeSort_sorted l)
theorem strict_ext {a b : List Int} (ha : a.Pairwise (· < ·)) (hb : b.Pairwise (· < ·)) (h : ∀ x, x ∈ a ↔ x ∈ b) : a = b := by
  have na : a.Nodup := ha.imp (fun h => Int.ne_of_lt h)
  have nb : b.Nodup := hb.imp (fun h => Int.ne_of_lt h)
  have hp : a.Perm b := (List.perm_ext_iff_of_nodup na nb).2 h
  exact sorted_unique hp (ha.imp Int.le_of_lt) (hb.imp Int.le_of_lt)
theorem compactUpTo_length (d : Array Int) : ∀ m, (Lib.compactUpTo d m).length ≤ m
  | 0 => by simp [Lib.compactUpTo]
  | m + 1 => by
    rw [Lib.compactUpTo_succ, List.length_append]
    have := compactUpTo_length d m
    split <;> simp <;> omega
theorem compact_length (l : List Int) : (Lib.compact l).length ≤ l.length := compactUpTo_length _ _
theorem sortU_length (l : List Int) : (sortU l).length ≤ l.length := by
  have := compact_length (srt l); rw [srt_length] at this; exact this
theorem grow_nil (w : World) : Go.Sort.grow w #[] = w := by simp [Go.Sort.grow]
theorem compact_ints_calls (v : Value) (l : List Int) (base : Nat) (w : World) (hR : (Kd.int .i64).R 3 w base (fun _ => True) v l) (hl : l.length ≤ 2000000) :
    Calls Try.prog 98 #[v] w fun e w' => ∃ v', e = .returned v' ∧ (Kd.int .i64).R 3 w' base (fun _ => True) v' (Lib.compact l) ∧ w.grownBy w' v.ownBlock ∧ v'.ownBlock = v.ownBlock := by
  have ho := Kd.own_of_R hR
  rcases ho.2 with ⟨rfl, h0⟩ | ⟨g, cap, cur, rfl, hg, hh, hc1, hc2, hc3, hc4⟩
  · have hn : l = [] := List.eq_nil_of_length_eq_zero h0
    subst hn
    refine (Any.slices_Compact_int_empty Try_compI none 0 w).mono ?_
    rintro e w' ⟨rfl, rfl⟩
    exact ⟨_, rfl, by rw [show Lib.compact ([] : List Int) = [] by simp [Lib.compact, Lib.compactUpTo]]; exact Kd.R_nil _ _ _ _ _, World.grownBy.refl _ _, rfl⟩
  · have hH : Go.Sort.Holds (Value.int .i64) w g 0 l.toArray := holds_of_blockI hh (by simpa [encs] using hc4)
    refine (Any.slices_Compact_int Try_compI g 0 cap l w hH (by omega) (by omega)).mono ?_
    rintro e w' ⟨rfl, q, rfl⟩
    have hcl := compact_length l
    have hdl : (Lib.compact l ++ List.replicate (l.length - (Lib.compact l).length) 0).length = l.length := by simp; omega
    refine ⟨_, rfl, ?_, ?_, rfl⟩
    · have hs := heap_sortedI (n := q) (os := #[]) (Lib.compact l ++ List.replicate (l.length - (Lib.compact l).length) 0).toArray hh
      rw [grow_nil] at hs
      have ht := take_putCellsI cur (Lib.compact l ++ List.replicate (l.length - (Lib.compact l).length) 0) (by rw [hdl]; omega)
      rw [hdl] at ht
      refine Kd.R_of_own (enc := Value.int .i64) (xs := Lib.compact l) ?_ (fun _ _ => trivial)
      refine ⟨by simp [encs], .inr ⟨g, cap, _, rfl, hg, hs, by omega, hc2, by simp [Go.Sort.putCells, hc3], ?_⟩⟩
      have h2 := congrArg (List.take (Lib.compact l).length) ht
      rw [List.take_take, Nat.min_eq_left hcl, List.map_append, List.take_left' (by simp)] at h2
      rw [Nat.mul_one]; exact h2
    · have := grownBy_sortedI (w := w) (g := g) (n := q) (os := #[]) (Lib.compact l ++ List.replicate (l.length - (Lib.compact l).length) 0).toArray
      rw [grow_nil] at this
      exact this
end Go.Proofs.Ytonbnlfijmapfaa
/- Plain: things laid in whichever order. No condition. -/
namespace Go.Proofs.Ytonbnlfijmapfaa
open Go.RowKit Go.Shelf Go.Proofs.YtonbnlfijmapfaaW.PrintWords
set_option linter.unusedVariables false
set_option linter.unusedSimpArgs false

section
variable {α : Type} {key : α → Int}
theorem insK_comm {x y : α} (h : key x < key y) : ∀ l : List α, insK key x (insK key y l) = insK key y (insK key x l)
  | [] => by simp only [insK, if_pos h, if_neg (show ¬ key y < key x by omega)]
  | z :: r => by
    by_cases h1 : key x < key z
    · by_cases h2 : key y < key z
      · simp only [insK, if_pos h1, if_pos h2, if_pos h, if_neg (show ¬ key y < key x by omega)]
      · simp only [insK, if_pos h1, if_neg h2, if_neg (show ¬ key y < key x by omega)]
    · have h2 : ¬ key y < key z ∨ key y < key z := by omega
      rcases h2 with h2 | h2
      · simp only [insK, if_neg h1, if_neg h2]
        rw [insK_comm h r]
      · omega
theorem findK_ins {x : α} {n : Int} (hn : key x ≠ n) : ∀ l : List α, findK key (insK key x l) n = findK key l n
  | [] => by simp [insK, findK, hn]
  | z :: r => by
    have hf : (key x == n) = false := by simpa using hn
    simp only [insK]
    split
    · simp only [findK, List.find?_cons, hf]
    · simp only [findK, List.find?_cons]
      split
      · rfl
      · exact findK_ins hn r
theorem findK_ins_self {x : α} : ∀ l : List α, (findK key (insK key x l) (key x)).isSome = true
  | [] => by simp [insK, findK]
  | z :: r => by
    simp only [insK]
    split
    · simp [findK]
    · simp only [findK, List.find?_cons]
      split
      · rfl
      · exact findK_ins_self r
theorem insK_comm' {x y : α} (h : key x ≠ key y) (l : List α) : insK key x (insK key y l) = insK key y (insK key x l) := by
  rcases Int.lt_or_gt_of_ne h with h1 | h1
  · exact insK_comm h1 l
  · exact (insK_comm h1 l).symm
end
theorem addV_comm (s : List SVert) {x y : SVert} (h : x.f0 ≠ y.f0) : (addV (addV s x).1 y).1 = (addV (addV s y).1 x).1 := by
  have hx : ∀ l, findK SVert.f0 (insK SVert.f0 x l) y.f0 = findK SVert.f0 l y.f0 := fun l => findK_ins h l
  have hy : ∀ l, findK SVert.f0 (insK SVert.f0 y l) x.f0 = findK SVert.f0 l x.f0 := fun l => findK_ins (Ne.symm h) l
  unfold addV
  by_cases cx : checkN x.f1 x.f2 [x.f0] = 0 <;> by_cases cy : checkN y.f1 y.f2 [y.f0] = 0 <;> simp only [cx, cy, if_true, if_false] <;>
    by_cases fx : (findK SVert.f0 s x.f0).isSome = true <;> by_cases fy : (findK SVert.f0 s y.f0).isSome = true <;> simp only [hx, hy, fx, fy, if_true, if_false, Bool.false_eq_true]
  exact insK_comm' (Ne.symm h) s
theorem addE_comm (vs : List SVert) (s : List SEdg) {x y : SEdg} (h : x.f0 ≠ y.f0) : (addE vs (addE vs s x).1 y).1 = (addE vs (addE vs s y).1 x).1 := by
  have hx : ∀ l, findK SEdg.f0 (insK SEdg.f0 x l) y.f0 = findK SEdg.f0 l y.f0 := fun l => findK_ins h l
  have hy : ∀ l, findK SEdg.f0 (insK SEdg.f0 y l) x.f0 = findK SEdg.f0 l x.f0 := fun l => findK_ins (Ne.symm h) l
  unfold addE
  by_cases cx : checkN x.f1 x.f4 [x.f0, x.f2, x.f3] = 0 <;> by_cases cy : checkN y.f1 y.f4 [y.f0, y.f2, y.f3] = 0 <;> simp only [cx, cy, if_true, if_false] <;>
    by_cases fx : (findK SEdg.f0 s x.f0).isSome = true <;> by_cases fy : (findK SEdg.f0 s y.f0).isSome = true <;> simp only [hx, hy, fx, fy, if_true, if_false, Bool.false_eq_true] <;>
    by_cases ex : (findK SVert.f0 vs x.f2).isSome = true ∧ (findK SVert.f0 vs x.f3).isSome = true <;> by_cases ey : (findK SVert.f0 vs y.f2).isSome = true ∧ (findK SVert.f0 vs y.f3).isSome = true <;> simp only [hx, hy, fx, fy, ex, ey, if_true, if_false, and_self, Bool.false_eq_true]
  exact insK_comm' (Ne.symm h) s
def layV (s : List SVert) (l : List SVert) : List SVert := l.foldl (fun s x => (addV s x).1) s
def layE (vs : List SVert) (s : List SEdg) (l : List SEdg) : List SEdg := l.foldl (fun s x => (addE vs s x).1) s
theorem layV_perm {l m : List SVert} (h : l.Perm m) (hd : l.Pairwise fun a b => a.f0 ≠ b.f0) (s : List SVert) : layV s l = layV s m := by
  refine h.foldl_eq' (fun x hx y hy z => ?_) s
  by_cases e : x.f0 = y.f0
  · have : x = y := by
      clear h
      induction l with
      | nil => simp at hx
      | cons a r ih =>
        obtain ⟨h1, h2⟩ := List.pairwise_cons.1 hd
        rcases List.mem_cons.1 hx with rfl | hx' <;> rcases List.mem_cons.1 hy with rfl | hy'
        · rfl
        · exact absurd e (h1 _ hy')
        · exact absurd e.symm (h1 _ hx')
        · exact ih h2 hx' hy'
    rw [this]
  · exact addV_comm z e
theorem layE_perm (vs : List SVert) {l m : List SEdg} (h : l.Perm m) (hd : l.Pairwise fun a b => a.f0 ≠ b.f0) (s : List SEdg) : layE vs s l = layE vs s m := by
  refine h.foldl_eq' (fun x hx y hy z => ?_) s
  by_cases e : x.f0 = y.f0
  · have : x = y := by
      clear h
      induction l with
      | nil => simp at hx
      | cons a r ih =>
        obtain ⟨h1, h2⟩ := List.pairwise_cons.1 hd
        rcases List.mem_cons.1 hx with rfl | hx' <;> rcases List.mem_cons.1 hy with rfl | hy'
        · rfl
        · exact absurd e (h1 _ hy')
        · exact absurd e.symm (h1 _ hx')
        · exact ih h2 hx' hy'
    rw [this]
  · exact addE_comm vs z e
/-- What is laid is right. -/
theorem mem_insK {α : Type} {key : α → Int} {x y : α} : ∀ {l : List α}, y ∈ insK key x l ↔ y = x ∨ y ∈ l
  | [] => by simp [insK]
  | z :: r => by
    rw [insK]
    split
    · simp
    · simp only [List.mem_cons, mem_insK (l := r)]
      constructor
      · rintro (h | h | h) <;> simp [h]
      · rintro (h | h | h) <;> simp [h]
theorem insK_length {α : Type} {key : α → Int} {x : α} : ∀ l : List α, (insK key x l).length = l.length + 1
  | [] => rfl
  | z :: r => by
    rw [insK]
    split
    · rfl
    · rw [List.length_cons, insK_length r, List.length_cons]
/-- The list from its k-th on, then its beginning; from behind. -/
theorem turned_perm {α : Type} (l : List α) (k : Nat) : (l.drop k ++ l.take k).reverse.Perm l :=
  (List.reverse_perm _).trans ((List.perm_append_comm).trans (by rw [List.take_append_drop]))
end Go.Proofs.Ytonbnlfijmapfaa
/- maps.Keys, slices.Sorted at ints, laid for this program (printed as S0). No condition. -/
namespace Go.Proofs.Ytonbnlfijmapfaa
open Go.Shelf
set_option maxRecDepth 100000
def Try_keysV_ren : Go.Shelf.Ren := ⟨fun | 7 => 90 | 10 => 120 | n => n, fun | 23 => 132 | 26 => 3 | 3 => 24 | 28 => 140 | 0 => 0 | 27 => 139 | 33 => 130 | 4 => 4 | n => n, fun | n => n⟩
theorem Try_keysV : Go.Proofs.SlLaysZI.n7 Try.prog Try_keysV_ren where
  mixed := by kernel_rfl
  f7 := ⟨"maps.Keys[map[int]cobweb/api.Vertex,int,cobweb/api.Vertex]", by decide, Try.func90.trans (congrArg some (by kernel_rfl))⟩
  f10 := ⟨"maps.Keys[map[int]cobweb/api.Vertex,int,cobweb/api.Vertex]$1", by decide, Try.func120.trans (congrArg some (by kernel_rfl))⟩
  t0 := Try.underlying0
  a0 := Try.isAgg0
  z0 := Try.sizeOf0
  v0 := Try.zeroValue0
  t4 := Try.underlying4
  a4 := Try.isAgg4
  z4 := Try.sizeOf4
  v4 := Try.zeroValue4
  t23 := Try.underlying132
  a23 := Try.isAgg132
  z23 := Try.sizeOf132
  v23 := Try.zeroValue132
  t26 := Try.underlying3
  a26 := Try.isAgg3
  z26 := Try.sizeOf3
  v26 := Try.zeroValue3
  t27 := Try.underlying139
  a27 := Try.isAgg139
  z27 := Try.sizeOf139
  v27 := Try.zeroValue139
  t28 := Try.underlying140
  a28 := Try.isAgg140
  z28 := Try.sizeOf140
  v28 := Try.zeroValue140
  t33 := Try.underlying130
  a33 := Try.isAgg130
  z33 := Try.sizeOf130
  v33 := Try.zeroValue130
def Try_keysE_ren : Go.Shelf.Ren := ⟨fun | 7 => 91 | 10 => 121 | n => n, fun | 23 => 133 | 26 => 3 | 3 => 35 | 28 => 140 | 0 => 0 | 27 => 139 | 33 => 130 | 4 => 4 | n => n, fun | n => n⟩
theorem Try_keysE : Go.Proofs.SlLaysZI.n7 Try.prog Try_keysE_ren where
  mixed := by kernel_rfl
  f7 := ⟨"maps.Keys[map[int]cobweb/api.Edge,int,cobweb/api.Edge]", by decide, Try.func91.trans (congrArg some (by kernel_rfl))⟩
  f10 := ⟨"maps.Keys[map[int]cobweb/api.Edge,int,cobweb/api.Edge]$1", by decide, Try.func121.trans (congrArg some (by kernel_rfl))⟩
  t0 := Try.underlying0
  a0 := Try.isAgg0
  z0 := Try.sizeOf0
  v0 := Try.zeroValue0
  t4 := Try.underlying4
  a4 := Try.isAgg4
  z4 := Try.sizeOf4
  v4 := Try.zeroValue4
  t23 := Try.underlying133
  a23 := Try.isAgg133
  z23 := Try.sizeOf133
  v23 := Try.zeroValue133
  t26 := Try.underlying3
  a26 := Try.isAgg3
  z26 := Try.sizeOf3
  v26 := Try.zeroValue3
  t27 := Try.underlying139
  a27 := Try.isAgg139
  z27 := Try.sizeOf139
  v27 := Try.zeroValue139
  t28 := Try.underlying140
  a28 := Try.isAgg140
  z28 := Try.sizeOf140
  v28 := Try.zeroValue140
  t33 := Try.underlying130
  a33 := Try.isAgg130
  z33 := Try.sizeOf130
  v33 := Try.zeroValue130
def Try_sortedI_ren : Go.Shelf.Ren := ⟨fun | 6 => 89 | 8 => 119 | 9 => 97 | 11 => 135 | 13 => 126 | 12 => 125 | 23 => 146 | 24 => 147 | 14 => 137 | 15 => 138 | 16 => 139 | 17 => 140 | 18 => 141 | 19 => 142 | 20 => 143 | 21 => 144 | 22 => 145 | 25 => 151 | 26 => 152 | 27 => 153 | 28 => 154 | 29 => 155 | 30 => 156 | 31 => 158 | n => n, fun | 26 => 3 | 28 => 140 | 24 => 49 | 0 => 0 | 3 => 3 | 37 => 163 | 48 => 199 | 50 => 121 | 4 => 4 | 40 => 193 | 39 => 192 | 45 => 158 | 5 => 5 | 9 => 9 | 51 => 203 | 55 => 207 | 57 => 210 | 58 => 211 | 33 => 130 | n => n, fun | n => n⟩
theorem Try_sortedI : Go.Proofs.SlLaysZI.n6 Try.prog Try_sortedI_ren where
  mixed := by kernel_rfl
  f6 := ⟨"slices.Sorted[int]", by decide, Try.func89.trans (congrArg some (by kernel_rfl))⟩
  f8 := ⟨"slices.Collect[int]", by decide, Try.func119.trans (congrArg some (by kernel_rfl))⟩
  f11 := ⟨"slices.AppendSeq[[]int,int]", by decide, Try.func135.trans (congrArg some (by kernel_rfl))⟩
  t0 := Try.underlying0
  a0 := Try.isAgg0
  z0 := Try.sizeOf0
  v0 := Try.zeroValue0
  t24 := Try.underlying49
  a24 := Try.isAgg49
  z24 := Try.sizeOf49
  v24 := Try.zeroValue49
  t26 := Try.underlying3
  a26 := Try.isAgg3
  z26 := Try.sizeOf3
  v26 := Try.zeroValue3
  t28 := Try.underlying140
  a28 := Try.isAgg140
  z28 := Try.sizeOf140
  v28 := Try.zeroValue140
  i26 := by kernel_rfl
end Go.Proofs.Ytonbnlfijmapfaa
/- slices.Sorted(maps.Keys(m)) at the graph's maps: the keys, sorted. No condition but on sizes. -/
namespace Go.Proofs.Ytonbnlfijmapfaa
open Go.RowKit Go.Maps Go.Shelf Go.Proofs.YtonbnlfijmapfaaW.PrintWords
set_option linter.unusedVariables false
set_option linter.unusedSimpArgs false

theorem sorts_in (m : Nat) : AnyZI.SortsIn Try.prog Try_sortedI_ren Fence.wide m :=
  ⟨fun blk off cap ss W hH hblk hsz => callsIn_wide.2 (AnyM.slices_Sort_int Try_sortI blk off cap ss W hH hblk hsz),
   fun p cap W => callsIn_wide.2 (AnyM.slices_Sort_int_none Try_sortI p cap W)⟩
theorem intKeys_dat (l : List (Int × Value)) : intKeys (datI l) = l.map (·.1) := by
  simp only [datI, intKeys, List.map_map]
  rfl

theorem keys_V_calls (mb : Option Nat) (w : World) : Calls Try.prog 90 #[.map mb] w fun e w' => e = .returned (.func (.func 120) #[] #[.pointer (some ⟨w.heap.size, 0, none⟩)]) ∧ w' = w.alloc (.cells #[.map mb] 132) :=
  (callsIn_wide (n := 5)).1 (AnyZI.keys_in Try_keysV Fence.wide 5 trivial rfl mb w)
theorem sorted_V_calls (c b : Nat) (l : List (Int × Value)) (w : World) (h : IMap w Try.prog 3 b l) (hc : w.cell? ⟨c, 0, none⟩ = some (.map (some b))) (hlt : c < w.heap.size) (hn : l.length ≤ 1000000) :
    Calls Try.prog 89 #[.func (.func 120) #[] #[.pointer (some ⟨c, 0, none⟩)]] w fun e w' => ∃ v, e = .returned v ∧ (Kd.int .i64).R 3 w' w.heap.size (fun _ => True) v (l.map (·.1)) ∧ Below w.heap.size w w' := by
  have hsz : Maps.size (datI l) = l.length := by simp [datI, Maps.size_eq]
  have hseq : SeqGives Fence.wide 2 Try.prog 120 #[.pointer (some ⟨c, 0, none⟩)] encZ (fun ss => ss.Perm (intKeys (datI l))) (Maps.size (datI l)) w :=
    AnyZI.keys_gives (ρ := Try_keysV_ren) { Try_keysV with } Fence.wide _ trivial rfl (by omega) c b l.length (datI l) w hlt hc h.2
  have cS := AnyZI.sorted_in Try_sortedI Fence.wide 5 trivial trivial trivial trivial rfl (by omega) (sorts_in _) (enters_of Try.func97 (by kernel_rfl) rfl) 120 #[.pointer (some ⟨c, 0, none⟩)] trivial (enters_of Try.func120 (by kernel_rfl) rfl) _ _ (by rw [hsz]; simp only [maxLen]; omega) (by rw [hsz]; omega) _ hseq
  refine ((callsIn_wide (n := 5)).1 cS).mono ?_
  rintro e w' ⟨v, ss, rfl, hS, hrow, -, hb⟩
  refine ⟨v, rfl, ?_, hb⟩
  rw [intKeys_dat] at hS
  have hs : (l.map (·.1)).Pairwise (· < ·) := by rw [List.pairwise_map]; exact h.1
  have e := mergeSort_of_perm hS hs
  rw [e] at hrow
  refine Kd.R_of_own ?_ (fun _ _ => trivial)
  rw [← hS.length_eq]
  exact hrow

theorem keys_E_calls (mb : Option Nat) (w : World) : Calls Try.prog 91 #[.map mb] w fun e w' => e = .returned (.func (.func 121) #[] #[.pointer (some ⟨w.heap.size, 0, none⟩)]) ∧ w' = w.alloc (.cells #[.map mb] 133) :=
  (callsIn_wide (n := 5)).1 (AnyZI.keys_in Try_keysE Fence.wide 5 trivial rfl mb w)
theorem sorted_E_calls (c b : Nat) (l : List (Int × Value)) (w : World) (h : IMap w Try.prog 3 b l) (hc : w.cell? ⟨c, 0, none⟩ = some (.map (some b))) (hlt : c < w.heap.size) (hn : l.length ≤ 1000000) :
    Calls Try.prog 89 #[.func (.func 121) #[] #[.pointer (some ⟨c, 0, none⟩)]] w fun e w' => ∃ v, e = .returned v ∧ (Kd.int .i64).R 3 w' w.heap.size (fun _ => True) v (l.map (·.1)) ∧ Below w.heap.size w w' := by
  have hsz : Maps.size (datI l) = l.length := by simp [datI, Maps.size_eq]
  have hseq : SeqGives Fence.wide 2 Try.prog 121 #[.pointer (some ⟨c, 0, none⟩)] encZ (fun ss => ss.Perm (intKeys (datI l))) (Maps.size (datI l)) w :=
    AnyZI.keys_gives (ρ := Try_keysE_ren) { Try_keysE with } Fence.wide _ trivial rfl (by omega) c b l.length (datI l) w hlt hc h.2
  have cS := AnyZI.sorted_in Try_sortedI Fence.wide 5 trivial trivial trivial trivial rfl (by omega) (sorts_in _) (enters_of Try.func97 (by kernel_rfl) rfl) 121 #[.pointer (some ⟨c, 0, none⟩)] trivial (enters_of Try.func121 (by kernel_rfl) rfl) _ _ (by rw [hsz]; simp only [maxLen]; omega) (by rw [hsz]; omega) _ hseq
  refine ((callsIn_wide (n := 5)).1 cS).mono ?_
  rintro e w' ⟨v, ss, rfl, hS, hrow, -, hb⟩
  refine ⟨v, rfl, ?_, hb⟩
  rw [intKeys_dat] at hS
  have hs : (l.map (·.1)).Pairwise (· < ·) := by rw [List.pairwise_map]; exact h.1
  have e := mergeSort_of_perm hS hs
  rw [e] at hrow
  refine Kd.R_of_own ?_ (fun _ _ => trivial)
  rw [← hS.length_eq]
  exact hrow

end Go.Proofs.Ytonbnlfijmapfaa
/- graph.All: what is right of a graph's things; look-ups of what is there. No condition. -/
namespace Go.Proofs.Ytonbnlfijmapfaa
open Go.RowKit Go.Shelf Go.Proofs.YtonbnlfijmapfaaW.PrintWords
set_option linter.unusedVariables false
set_option linter.unusedSimpArgs false

/-- What is right of a graph's things. -/
def okV (vs : List SVert) : Prop := ∀ x ∈ vs, checkN x.f1 x.f2 [x.f0] = 0
def okE (es : List SEdg) : Prop := ∀ x ∈ es, checkN x.f1 x.f4 [x.f0, x.f2, x.f3] = 0
theorem okV_at {vs : List SVert} (h : okV vs) {x : SVert} (hx : x ∈ vs) : idOk x.f0 = true ∧ x.f2.length ≤ 16 := by
  have := checkN_ok (h x hx)
  exact ⟨by simpa using this.1, (propsRight_ok this.2.2).2⟩
theorem okE_at {es : List SEdg} (h : okE es) {x : SEdg} (hx : x ∈ es) : idOk x.f0 = true ∧ x.f4.length ≤ 16 := by
  have := checkN_ok (h x hx)
  exact ⟨(checkN_ids (h x hx)).1, (propsRight_ok this.2.2).2⟩
theorem findK_of {α : Type} {key : α → Int} {xs : List α} (hs : xs.Pairwise (fun a b => key a < key b)) {x : α} (hx : x ∈ xs) : findK key xs (key x) = some x := by
  induction xs with
  | nil => simp at hx
  | cons a r ih =>
    obtain ⟨h1, h2⟩ := List.pairwise_cons.1 hs
    rw [findK, List.find?_cons]
    rcases List.mem_cons.1 hx with e | hx'
    · subst e; simp
    · have := h1 x hx'
      have hne : (key a == key x) = false := by simp; omega
      rw [hne]
      exact ih h2 hx'
theorem VMap.at {W : World} {B m : Nat} {vs : List SVert} (h : VMap W B m vs) {x : SVert} (hx : x ∈ vs) (hw : idOk x.f0 = true) : ∃ (A : Option Addr) (c : Nat), kPrp.C W A x.f2.length x.f2 ∧
    ∀ W', Below W.heap.size W W' → (Instr.lookup 132 (.map (some m)) (.int .i64 x.f0) false).run Try.prog W' = .ok (.agg #[.int .i64 x.f0, .string x.f1, .slice A x.f2.length c]) W' := by
  obtain ⟨V, hV, hZ⟩ := h
  obtain ⟨val, hg, pv, rfl, hr⟩ := hZ.some (findK_of (hZ.sorted hV.1) hx)
  obtain ⟨A, c, rfl, hle, hC⟩ := Kd.R_reads hr
  refine ⟨A, c, hC, fun W' hW => ?_⟩
  have := run_look (w := W') Try.underlying3 Try.underlying132 (z := .agg #[.int .i64 0, .string ⟨#[]⟩, .slice none 0 0]) (by kernel_rfl) (hV.below hW) (wf_id hw)
  rw [hg] at this
  exact this
theorem EMap.at {W : World} {B m : Nat} {es : List SEdg} (h : EMap W B m es) {x : SEdg} (hx : x ∈ es) (hw : idOk x.f0 = true) : ∃ (A : Option Addr) (c : Nat), kPrp.C W A x.f4.length x.f4 ∧
    ∀ W', Below W.heap.size W W' → (Instr.lookup 133 (.map (some m)) (.int .i64 x.f0) false).run Try.prog W' = .ok (.agg #[.int .i64 x.f0, .string x.f1, .int .i64 x.f2, .int .i64 x.f3, .slice A x.f4.length c]) W' := by
  obtain ⟨V, hV, hZ⟩ := h
  obtain ⟨val, hg, pv, rfl, hr⟩ := hZ.some (findK_of (hZ.sorted hV.1) hx)
  obtain ⟨A, c, rfl, hle, hC⟩ := Kd.R_reads hr
  refine ⟨A, c, hC, fun W' hW => ?_⟩
  have := run_look (w := W') Try.underlying3 Try.underlying133 (z := .agg #[.int .i64 0, .string ⟨#[]⟩, .int .i64 0, .int .i64 0, .slice none 0 0]) (by kernel_rfl) (hV.below hW) (wf_id hw)
  rw [hg] at this
  exact this
theorem info_Vert : (Try.prog.info? 24).map (fun i => (i.zero, i.size, i.bytes)) = some (some (.agg #[.int .i64 0, .string ⟨#[]⟩, .slice none 0 0]), 3, 48) := by kernel_rfl
theorem info_Edg : (Try.prog.info? 35).map (fun i => (i.zero, i.size, i.bytes)) = some (some (.agg #[.int .i64 0, .string ⟨#[]⟩, .int .i64 0, .int .i64 0, .slice none 0 0]), 5, 64) := by kernel_rfl
theorem take_more {α : Type} (l : List α) (k : Nat) (z : α) (h : k < l.length) : l.take (k + 1) = l.take k ++ [l.getD k z] := by
  rw [List.take_succ_eq_append_getElem h, List.getD_eq_getElem?_getD, List.getElem?_eq_getElem h]; rfl
end Go.Proofs.Ytonbnlfijmapfaa
/- Plain: what is laid is right; lists turned about. No condition. -/
namespace Go.Proofs.Ytonbnlfijmapfaa
open Go.RowKit Go.Shelf Go.Proofs.YtonbnlfijmapfaaW.PrintWords
set_option linter.unusedVariables false
set_option linter.unusedSimpArgs false

theorem okV_addV {s : List SVert} (h : okV s) (x : SVert) : okV (addV s x).1 := by
  unfold addV
  split
  · rename_i hc
    split
    · exact h
    · intro y hy
      rcases mem_insK.1 hy with rfl | hy
      · exact hc
      · exact h y hy
  · exact h
theorem okE_addE {vs : List SVert} {s : List SEdg} (h : okE s) (x : SEdg) : okE (addE vs s x).1 := by
  unfold addE
  split
  · rename_i hc
    split
    · exact h
    · split
      · intro y hy
        rcases mem_insK.1 hy with rfl | hy
        · exact hc
        · exact h y hy
      · exact h
  · exact h
theorem addV_length (s : List SVert) (x : SVert) : (addV s x).1.length ≤ s.length + 1 := by
  unfold addV
  split
  · split
    · simp
    · simp [insK_length]
  · simp
theorem addE_length (vs : List SVert) (s : List SEdg) (x : SEdg) : (addE vs s x).1.length ≤ s.length + 1 := by
  unfold addE
  split
  · split
    · simp
    · split
      · simp [insK_length]
      · simp
  · simp
theorem layV_snoc (s l : List SVert) (x : SVert) : layV s (l ++ [x]) = (addV (layV s l) x).1 := by simp [layV]
theorem layE_snoc (vs : List SVert) (s l : List SEdg) (x : SEdg) : layE vs s (l ++ [x]) = (addE vs (layE vs s l) x).1 := by simp [layE]
theorem okV_lay : ∀ (l : List SVert) {s : List SVert}, okV s → okV (layV s l)
  | [], _, h => h
  | x :: l, _, h => okV_lay l (okV_addV h x)
theorem okE_lay (vs : List SVert) : ∀ (l : List SEdg) {s : List SEdg}, okE s → okE (layE vs s l)
  | [], _, h => h
  | x :: l, _, h => okE_lay vs l (okE_addE h x)
theorem layV_length : ∀ (l s : List SVert), (layV s l).length ≤ s.length + l.length
  | [], s => by simp [layV]
  | x :: l, s => by
    have h1 := layV_length l (addV s x).1
    have h2 := addV_length s x
    simp only [layV, List.foldl_cons, List.length_cons] at h1 ⊢
    omega
theorem layE_length (vs : List SVert) : ∀ (l s : List SEdg), (layE vs s l).length ≤ s.length + l.length
  | [], s => by simp [layE]
  | x :: l, s => by
    have h1 := layE_length vs l (addE vs s x).1
    have h2 := addE_length vs s x
    simp only [layE, List.foldl_cons, List.length_cons] at h1 ⊢
    omega
theorem okV_nil : okV [] := fun x hx => by simp at hx
theorem okE_nil : okE [] := fun x hx => by simp at hx
/-- From behind, turned by t. -/
def turned {α : Type} (l : List α) (t : Nat) : List α := (l.drop t ++ l.take t).reverse
theorem turned_length {α : Type} (l : List α) (t : Nat) : (turned l t).length = l.length := by simp [turned]; omega
theorem turned_at {α : Type} (l : List α) (t j : Nat) (z : α) (ht : t < l.length) (hj : j < l.length) : (turned l t).getD j z = l.getD ((l.length - 1 - j + t) % l.length) z := by
  have hl : (l.drop t ++ l.take t).length = l.length := by simp; omega
  simp only [turned, List.getD_eq_getElem?_getD]
  congr 1
  rw [List.getElem?_reverse (by rw [hl]; exact hj), hl]
  by_cases h : l.length - 1 - j < l.length - t
  · rw [List.getElem?_append_left (by rw [List.length_drop]; exact h), List.getElem?_drop, Nat.mod_eq_of_lt (by omega), Nat.add_comm]
  · rw [List.getElem?_append_right (by rw [List.length_drop]; omega), List.length_drop, List.getElem?_take, if_pos (by omega)]
    congr 1
    have : l.length - 1 - j + t = (l.length - 1 - j - (l.length - t)) + l.length := by omega
    rw [this, Nat.add_mod_right, Nat.mod_eq_of_lt (by omega)]
theorem pairwise_more {α : Type} {R : α → α → Prop} {l : List α} {x : α} (h : l.Pairwise R) (hx : ∀ a ∈ l, R a x) : (l ++ [x]).Pairwise R :=
  List.pairwise_append.2 ⟨h, by simp, fun a ha b hb => by rw [List.mem_singleton] at hb; subst hb; exact hx a ha⟩
/-- How far lists are turned. -/
def turnN (turn : Int) (n : Nat) : Nat := ((turn.tmod n + n).tmod n).toNat
theorem turn_facts (turn : Int) (n : Nat) (h : 0 < n) : -(n : Int) < turn.tmod n ∧ turn.tmod n < n := by
  have h1 := Int.natAbs_tmod turn n
  have h2 : turn.natAbs % (n : Int).natAbs < n := by simpa using Nat.mod_lt _ h
  omega
theorem turnN_eq (turn : Int) (n : Nat) (h : 0 < n) : (turn.tmod n + n).tmod n = (turnN turn n : Int) ∧ turnN turn n < n := by
  obtain ⟨h1, h2⟩ := turn_facts turn n h
  have h3 : (turn.tmod n + n).tmod n = (turn.tmod n + n) % n := Int.tmod_eq_emod_of_nonneg (by omega)
  have h4 := Int.emod_nonneg (turn.tmod n + n) (show (n : Int) ≠ 0 by omega)
  have h5 := Int.emod_lt_of_pos (turn.tmod n + n) (show (0 : Int) < n by omega)
  unfold turnN
  omega
theorem wrap64_in {n : Int} (h0 : -9223372036854775808 ≤ n) (h1 : n < 9223372036854775808) : wrap64 n = n := by unfold wrap64; omega
theorem step_eq (i t n : Nat) (h : 0 < n) : ((i : Int) + t).tmod n = ((i + t) % n : Nat) := by
  rw [Int.tmod_eq_emod_of_nonneg (by omega)]
  simp
theorem turn_step (turn : Int) (n m j : Nat) (hn : n ≤ 1000) (hj : j < n) (hm : (m : Int) = (n : Int) - 1 - j) :
    wrap64 (turn.tmod n + n) = turn.tmod n + n ∧ wrap64 ((m : Int) + (turn.tmod n + n).tmod n) = (m : Int) + (turn.tmod n + n).tmod n ∧ ((m : Int) + (turn.tmod n + n).tmod n).tmod n = ((m + turnN turn n) % n : Nat) ∧ (m + turnN turn n) % n < n ∧ turnN turn n < n ∧ n - 1 - j = m := by
  obtain ⟨t1, t2⟩ := turnN_eq turn n (by omega)
  obtain ⟨t3, t4⟩ := turn_facts turn n (by omega)
  have h5 := step_eq m (turnN turn n) n (by omega)
  have h6 := Nat.mod_lt (m + turnN turn n) (show 0 < n by omega)
  rw [t1]
  refine ⟨wrap64_in ?_ ?_, wrap64_in ?_ ?_, h5, h6, t2, ?_⟩
  · generalize turn.tmod (n : Int) = z at t3 t4; omega
  · generalize turn.tmod (n : Int) = z at t3 t4; omega
  · clear t1 t3 t4 h5 h6; omega
  · clear t1 t3 t4 h5 h6; omega
  · clear t1 t3 t4 h5 h6; omega
end Go.Proofs.Ytonbnlfijmapfaa
/- cobwebref01.Compare. -/
namespace Go.Proofs.Ytonbnlfijmapfaa
open Go.RowKit Go.Shelf Go.Proofs.YtonbnlfijmapfaaW.PrintWords
set_option linter.unusedVariables false
set_option linter.unusedSimpArgs false

set_option maxRecDepth 100000 in
set_option maxHeartbeats 4000000 in
theorem ref01_Compare_calls (a b : ByteArray) (w : World) (ha : a.size ≤ 2000000) (hb : b.size ≤ 2000000) :
    Calls Try.prog 106 #[.string a, .string b] w fun e w' => e = .returned (.int .i64 (cmpS a b)) ∧ Below w.heap.size w w' := by
  have p1 : True := trivial
  go_enter Try.func106, Try.ntmps106
  go_wp2_with (first
    | (go_at_call 102; clear p1; refine (ref01_Runes_calls a _ ha).mono ?_; rintro e w1 ⟨⟨v1, rfl, hR1⟩, hb1⟩; have HR1 := Lib.hid hR1; have HB := Lib.hid hb1; clear hR1 hb1)
    | (go_at_call 102; refine (ref01_Runes_calls b _ hb).mono ?_; rintro e w2 ⟨⟨v2, rfl, hR2⟩, hb2⟩; have HR2 := Lib.hid hR2; replace HR1 := Lib.hid (Kd.R_below HR1.out hb2); replace HB := Lib.hid (keepB0 hb2 HB.out); clear hR2 hb2))
  obtain ⟨A1, c1, rfl, -, hC1⟩ := Kd.R_reads HR1.out
  obtain ⟨A2, c2, rfl, -, hC2⟩ := Kd.R_reads HR2.out
  have HC1 := Lib.hid hC1
  have HC2 := Lib.hid hC2
  clear hC1 hC2 HR1 HR2
  have hm1 := Kd.C_max HC1.out
  have hm2 := Kd.C_max HC2.out
  have HG : Hid (cmpS a b = cmpL (runes a) (runes b)) := Lib.hid rfl
  generalize runes a = xs at HC1 HG hm1
  generalize runes b = ys at HC2 HG hm2
  go_loopw [7] (fun v7 wr => ∃ k : Nat, k ≤ xs.length ∧ k ≤ ys.length ∧ v7 = .int .i64 k ∧ Hid (Quiet w2 wr) ∧ Hid (cmpL (xs.drop k) (ys.drop k) = cmpL xs ys)) (fun v7 _ => xs.length - (intOf v7).toNat)
  case atStart => exact ⟨0, Nat.zero_le _, Nat.zero_le _, rfl, Lib.hid (quiet_refl _), Lib.hid rfl⟩
  case round =>
    obtain ⟨k, hk, hk2, rfl, HQ, HI⟩ := hrel
    by_cases hlt : k < xs.length
    · have hlt1 : (k : Int) < (xs.length : Int) := by omega
      obtain ⟨ad, rfl, g0⟩ := Kd.at_int (Kd.C_below HC1.out (quiet_below HQ.out _)) (k : Int) (by omega) (by omega)
      simp only [Int.toNat_natCast] at g0
      by_cases hlt2 : k < ys.length
      · have hlt3 : (k : Int) < (ys.length : Int) := by omega
        obtain ⟨bd, rfl, g1⟩ := Kd.at_int (Kd.C_below HC2.out (quiet_below HQ.out _)) (k : Int) (by omega) (by omega)
        simp only [Int.toNat_natCast] at g1
        have HS := Lib.hid (cmpL_step hlt hlt2)
        generalize rd xs (k : Int) = x at *
        generalize rd ys (k : Int) = y at *
        rcases Int.lt_trichotomy x y with h | h | h
        · have hc : cmpI x y = -1 := by simp [cmpI, h]
          have hd : decide (x < y) = true := decide_eq_true h
          have HH := Lib.hid h; clear h
          go_wp2_with fail
          go_big_quiet (fail)
          go_wp2
          go_ret
          exact ⟨ret_int (by rw [HG.out, ← HI.out, HS.out, hc]; rfl), keepB0 (quiet_below (quiet_step HQ.out _) _) HB.out⟩
        · have hc : cmpI x y = 0 := by simp [cmpI, h]
          subst h
          have HH := Lib.hid hc; clear hc
          go_wp2_with fail
          go_big_quiet (fail)
          go_wp2_with fail
          go_big_quiet (fail)
          go_wp2
          go_roundw
          case rel => exact ⟨k + 1, by omega, by omega, by go_num, Lib.hid (by first | exact quiet_step HQ.out _ | exact quiet_step (quiet_step HQ.out _) _), Lib.hid (by rw [← HI.out, HS.out, HH.out]; rfl)⟩
          case measure => simp [intOf]; omega
        · have hc : cmpI x y = 1 := by have : ¬ x < y := by omega
                                       simp [cmpI, h, this]
          have hd : decide (x < y) = false := decide_eq_false (by omega)
          have hd2 : decide (y < x) = true := decide_eq_true h
          have HH := Lib.hid h; clear h
          go_wp2_with fail
          go_big_quiet (fail)
          go_wp2_with fail
          go_big_quiet (fail)
          go_wp2
          go_ret
          exact ⟨ret_int (by rw [HG.out, ← HI.out, HS.out, hc]; rfl), keepB0 (by first | exact quiet_below (quiet_step HQ.out _) _ | exact quiet_below (quiet_step (quiet_step HQ.out _) _) _) HB.out⟩
      · have hlt3 : ¬ (k : Int) < (ys.length : Int) := by omega
        have HE := Lib.hid (cmpL_end hk hk2 (by omega))
        have h1 : ¬ ((xs.length : Int) < (ys.length : Int)) := by omega
        have h2 : ((ys.length : Int) < (xs.length : Int)) := by omega
        go_wp2
        go_ret
        exact ⟨ret_int (by rw [HG.out, ← HI.out, HE.out]; unfold cmpI; rw [if_neg (by omega), if_pos (by omega)]), keepB0 (quiet_below HQ.out _) HB.out⟩
    · have hlt1 : ¬ (k : Int) < (xs.length : Int) := by omega
      have HE := Lib.hid (cmpL_end hk hk2 (by omega))
      by_cases hlt2 : xs.length < ys.length
      · have h1 : ((xs.length : Int) < (ys.length : Int)) := by omega
        go_wp2
        go_ret
        exact ⟨ret_int (by rw [HG.out, ← HI.out, HE.out]; unfold cmpI; rw [if_pos (by omega)]), keepB0 (quiet_below HQ.out _) HB.out⟩
      · have h1 : ¬ ((xs.length : Int) < (ys.length : Int)) := by omega
        have h2 : ¬ ((ys.length : Int) < (xs.length : Int)) := by omega
        go_wp2
        go_ret
        exact ⟨ret_int (by rw [HG.out, ← HI.out, HE.out]; unfold cmpI; rw [if_neg (by omega), if_neg (by omega)]), keepB0 (quiet_below HQ.out _) HB.out⟩
end Go.Proofs.Ytonbnlfijmapfaa
