/- Texts of this proof, joined: M15, L12, L13, L14, M16, L15, L16, M17, L33, L34, O0, O2, L17, P1. No condition. -/
import Derived.Test.YtonbnlfijmapfaaH3
import Derived.Test.YtonbnlfijmapfaaH2
import Derived.Test.YtonbnlfijmapfaaH1
import Derived.ProofKit
import Derived.Deep.Slices
import Derived.OpenShut
/- graph.Drop. No condition but on sizes. -/
namespace Go.Proofs.Ytonbnlfijmapfaa
open Go.RowKit Go.Shelf Go.Proofs.YtonbnlfijmapfaaW.PrintWords
set_option linter.unusedVariables false
set_option linter.unusedSimpArgs false

section
variable {W W' : World} {B g m1 m2 : Nat} {vs : List SVert} {es : List SEdg}
theorem GraphAt.delE (h : GraphAt W B g m1 m2 vs es) {n : Int} {V : List (Int × Value)} (hZ : Zip (EAs W B) SEdg.f0 V es) (hI : IMap W' Try.prog 3 m2 (delI V n)) (hb : But (fun k => k = m2) W W') : GraphAt W' B g m1 m2 vs (delK SEdg.f0 es n) := by
  have hnc : ∀ k, k = m2 → NoCells W k := fun k hk => by rw [hk]; exact h.em.noCells
  refine ⟨hb.blk h.blk (fun hs => hnc g hs _ _ h.blk), h.low, h.ne, h.vm.but hb (fun e => h.ne e) hnc, ⟨delI V n, hI, ?_⟩⟩
  exact (hZ.mono (fun v y ⟨pv, e, hr⟩ => ⟨pv, e, hb.row hr hnc⟩)).del n
theorem GraphAt.delV (h : GraphAt W B g m1 m2 vs es) {n : Int} {V : List (Int × Value)} (hZ : Zip (VAs W B) SVert.f0 V vs) (hI : IMap W' Try.prog 3 m1 (delI V n)) (hb : But (fun k => k = m1) W W') : GraphAt W' B g m1 m2 (delK SVert.f0 vs n) es := by
  have hnc : ∀ k, k = m1 → NoCells W k := fun k hk => by rw [hk]; exact h.vm.noCells
  refine ⟨hb.blk h.blk (fun hs => hnc g hs _ _ h.blk), h.low, h.ne, ⟨delI V n, hI, ?_⟩, h.em.but hb (fun e => h.ne e.symm) hnc⟩
  exact (hZ.mono (fun v y ⟨pv, e, hr⟩ => ⟨pv, e, hb.row hr hnc⟩)).del n
end
def delAll (es : List SEdg) (l : List Int) : List SEdg := l.foldl (delK SEdg.f0) es
theorem delAll_snoc (es : List SEdg) (l : List Int) (n : Int) : delAll es (l ++ [n]) = delK SEdg.f0 (delAll es l) n := by simp [delAll]
/-- What graph.Drop does: the vertices, the edges, which are gone, the answer. -/
def dropG (edge : Bool) (id : Int) (vs : List SVert) (es : List SEdg) : (List SVert × List SEdg) × (List Int × Int) :=
  if edge = true then (if (findK SEdg.f0 es id).isSome = true then ((vs, delAll es [id]), ([id], 0)) else ((vs, es), ([], 101)))
  else (if (findK SVert.f0 vs id).isSome = true then ((delK SVert.f0 vs id, delAll es (sortU (outIds es id ++ inIds es id))), (sortU (outIds es id ++ inIds es id), 0)) else ((vs, es), ([], 101)))
theorem mem_outIds {es : List SEdg} {id n : Int} : n ∈ outIds es id ↔ ∃ x ∈ es, x.f2 = id ∧ x.f0 = n := by
  simp only [outIds, List.mem_map, List.mem_filter, decide_eq_true_eq]
  constructor
  · rintro ⟨x, ⟨h1, h2⟩, h3⟩; exact ⟨x, h1, h2, h3⟩
  · rintro ⟨x, h1, h2, h3⟩; exact ⟨x, ⟨h1, h2⟩, h3⟩
theorem mem_inIds {es : List SEdg} {id n : Int} : n ∈ inIds es id ↔ ∃ x ∈ es, x.f3 = id ∧ x.f0 = n := by
  simp only [inIds, List.mem_map, List.mem_filter, decide_eq_true_eq]
  constructor
  · rintro ⟨x, ⟨h1, h2⟩, h3⟩; exact ⟨x, h1, h2, h3⟩
  · rintro ⟨x, h1, h2, h3⟩; exact ⟨x, ⟨h1, h2⟩, h3⟩
theorem outIds_length (es : List SEdg) (id : Int) : (outIds es id).length ≤ es.length := by rw [outIds, List.length_map]; exact List.length_filter_le _ _
theorem inIds_length (es : List SEdg) (id : Int) : (inIds es id).length ≤ es.length := by rw [inIds, List.length_map]; exact List.length_filter_le _ _
/-- Own ints, read at a place, kept beside a map that turns. -/
theorem mapsBut {S : Nat → Prop} {w w1 : World} {T base : Nat} {v : Value} {l : List Int} (hb : But S w w1) (hR : (Kd.int .i64).R T w base (fun _ => True) v l) (hn : ∀ k, S k → NoCells w k) : (Kd.int .i64).R T w1 base (fun _ => True) v l := hb.row hR hn

set_option maxRecDepth 100000 in
set_option maxHeartbeats 8000000 in
theorem graph_Drop_calls (B g m1 m2 : Nat) (vs : List SVert) (es : List SEdg) (edge : Bool) (id : Int) (w : World) (hG : GraphAt w B g m1 m2 vs es) (hw : (Lit.int .i64 id).wf = true) (hE : okE es) (hn : es.length ≤ 100000) :
    Calls Try.prog 81 #[.pointer (some ⟨g, 0, none⟩), .bool edge, .int .i64 id] w fun e w' => ∃ v, e = .returned (.tuple #[v, .int .i64 (dropG edge id vs es).2.2]) ∧ (Kd.int .i64).R 3 w' w.heap.size (fun _ => True) v (dropG edge id vs es).2.1 ∧ GraphAt w' B g m1 m2 (dropG edge id vs es).1.1 (dropG edge id vs es).1.2 ∧ But (fun k => k = m1 ∨ k = m2) w w' := by
  have HG := Lib.hid hG; clear hG
  have HE := Lib.hid hE; clear hE
  have HD := Lib.hid (dropG.eq_1 edge id vs es)
  obtain ⟨vi, vsx, vA, vk, vc, hLV⟩ := HG.out.vm.look_ok hw
  obtain ⟨ei, esx, ea, eb, eA, ek, ec, hLE⟩ := HG.out.em.look_ok hw
  have HLV := Lib.hid hLV
  have HLE := Lib.hid hLE
  clear hLV hLE
  have hk0 := blk_cell HG.out.blk 0
  have hl1 := HLV.out w (Below.refl _ _)
  have hk1 := blk_cell (blk_alloc HG.out.blk (.cells #[.int .i64 vi, .string vsx, .slice vA vk vc] 24)) 1
  have hl2 := HLE.out (w.alloc (.cells #[.int .i64 vi, .string vsx, .slice vA vk vc] 24)) (below_al _ _)
  simp only [List.getElem?_toArray, List.getElem?_cons_zero, List.getElem?_cons_succ] at hk0 hk1
  have HB2 := Lib.hid (keepB0 (below_al (w.alloc (.cells #[.int .i64 vi, .string vsx, .slice vA vk vc] 24)) (.cells #[.int .i64 ei, .string esx, .int .i64 ea, .int .i64 eb, .slice eA ek ec] 35)) (below_al w (.cells #[.int .i64 vi, .string vsx, .slice vA vk vc] 24)))
  cases edge with
  | true =>
    simp only [if_true] at HD
    cases hf : (findK SEdg.f0 es id).isSome with
    | true =>
      rw [hf] at HD hl2
      simp only [if_true] at HD
      generalize (findK SVert.f0 vs id).isSome = bV at hl1
      go_enter Try.func81, Try.ntmps81
      go_wp2
      have HG0 : Hid (GraphAt (((w.alloc (.cells #[.int .i64 vi, .string vsx, .slice vA vk vc] 24)).alloc (.cells #[.int .i64 ei, .string esx, .int .i64 ea, .int .i64 eb, .slice eA ek ec] 35)).alloc (.cells #[.int .i64 id] 3)) B g m1 m2 vs (delAll es (List.take 0 [id]))) := Lib.hid (HG.out.below (keepB0 (below_al _ _) HB2.out))
      have HR0 := Lib.hid (R_box1g (W := ((w.alloc (.cells #[.int .i64 vi, .string vsx, .slice vA vk vc] 24)).alloc (.cells #[.int .i64 ei, .string esx, .int .i64 ea, .int .i64 eb, .slice eA ek ec] 35))) (base := w.heap.size) (T := 3) (g := w.heap.size + 1 + 1) (by simp) id .i64 (by simp; omega))
      have HBut := But.of_below (fun k => k = m1 ∨ k = m2) (keepB0 (below_al _ (.cells #[.int .i64 id] 3)) HB2.out)
      have HWF : Hid (∀ n ∈ [id], (Lit.int .i64 n).wf = true) := Lib.hid (fun n hn => by simp at hn; rw [hn]; exact hw)
      have hnl : [id].length = 1 := rfl
      generalize (some (⟨w.heap.size + 1 + 1, 0, none⟩ : Addr)) = A3 at HR0 ⊢
      have hnl : [id].length ≤ 1000000 := by simp
      have HS0 := Lib.hid HBut; clear HBut
      go_loopw [63] (fun s63 wr => ∃ k : Nat, k ≤ [id].length ∧ s63 = .int .i64 k ∧ Hid (GraphAt wr B g m1 m2 vs (delAll es ([id].take k))) ∧ Hid ((Kd.int .i64).R 3 wr w.heap.size (fun _ => True) (.slice A3 1 1) [id]) ∧ Hid (But (fun k => k = m1 ∨ k = m2) w wr)) (fun s63 _ => [id].length - (intOf s63).toNat)
      case atStart => exact ⟨0, by omega, rfl, HG0, HR0, HS0⟩
      case round =>
        obtain ⟨k, hk, rfl, HGr, HRr, HBr⟩ := hrel
        by_cases hlt : k < [id].length
        · have hlt2 : (k : Int) < ([id].length : Int) := by omega
          have hlt3 : (k : Int) < 1 := by simpa using hlt2
          obtain ⟨ad, e0, g0⟩ := Kd.at_int (Kd.R_reads' HRr.out).2.2 (k : Int) (by omega) (by omega)
          cases e0
          simp only [Int.toNat_natCast, rd] at g0
          have hmem : [id].getD k 0 ∈ [id] := by simp [List.getD_eq_getElem?_getD, List.getElem?_eq_getElem hlt]
          have HT := Lib.hid (take_more [id] k 0 hlt)
          have hwf := HWF.out _ hmem
          clear hmem
          generalize [id].getD k 0 = x at g0 HT hwf
          have hk1 := blk_cell HGr.out.blk 1
          simp only [List.getElem?_toArray, List.getElem?_cons_zero, List.getElem?_cons_succ] at hk1
          obtain ⟨V, hV, hZ⟩ := HGr.out.em
          have HV := Lib.hid hV; have HZ := Lib.hid hZ; clear hV hZ
          go_wp2_with (at_delete; refine wpList_mdel _ rfl _ _ 133 3 rfl 35 Try.underlying3 Try.underlying133 m2 V rfl HV.out x rfl hwf ?_; intro w9 hI9 hT9; have HI9 := Lib.hid hI9; have HT9 := Lib.hid (But.of_turned (S := fun k => k = m2) hT9 rfl); clear hI9 hT9)
          go_roundw
          case rel => exact ⟨k + 1, by omega, by go_num, Lib.hid (by rw [HT.out, delAll_snoc]; exact HGr.out.delE HZ.out HI9.out HT9.out), Lib.hid (HT9.out.row HRr.out (fun k hk => by rw [hk]; exact HGr.out.em.noCells)), Lib.hid (HBr.out.trans (HT9.out.mono (fun k hk => .inr hk)))⟩
          case measure => simp [intOf]; omega
        · have hlt2 : ¬ (k : Int) < ([id].length : Int) := by omega
          have hlt3 : ¬ (k : Int) < 1 := by simpa using hlt2
          go_wp2
          go_ret2
          rw [HD.out]
          have h1 := HGr.out
          rw [List.take_of_length_le (by omega)] at h1
          exact ⟨_, rfl, HRr.out, h1, HBr.out⟩
    | false =>
      rw [hf] at HD hl2
      simp only [if_false, Bool.false_eq_true] at HD
      generalize (findK SVert.f0 vs id).isSome = bV at hl1
      go_enter Try.func81, Try.ntmps81
      go_wp2
      go_ret2
      rw [HD.out]
      exact ⟨_, rfl, Kd.R_nil _ _ _ _ _, HG.out.below HB2.out, But.of_below _ HB2.out⟩
  | false =>
    simp only [if_false, Bool.false_eq_true] at HD
    cases hf : (findK SVert.f0 vs id).isSome with
    | true =>
      rw [hf] at HD hl1
      simp only [if_true] at HD
      generalize (findK SEdg.f0 es id).isSome = bE at hl2
      go_enter Try.func81, Try.ntmps81
      go_wp2_with (first
        | (go_at_call 79; refine (graph_Out_calls B g m1 m2 vs es id _ (HG.out.below HB2.out) (by omega)).mono ?_; rintro e w4 ⟨v4, rfl, hR4, hb4⟩; have HB4 := Lib.hid (keepB0 hb4 HB2.out); have HR4 := Lib.hid (Kd.R_lower (base' := w.heap.size) hR4 HB2.out.size); clear hR4 hb4)
        | (go_at_call 80; refine (graph_In_calls B g m1 m2 vs es id _ (HG.out.below HB4.out) (by omega)).mono ?_; rintro e w5 ⟨v5, rfl, hR5, hb5⟩; have HB5 := Lib.hid (keepB0 hb5 HB4.out); obtain ⟨A5, c5, rfl, -, hC5⟩ := Kd.R_reads hR5; have HC5 := Lib.hid hC5; have HR5 := Lib.hid (Kd.R_below HR4.out hb5); clear hR5 hb5 hC5; obtain ⟨v6, w6, hr6, hR6, hb6, hg6, -⟩ := run_app_row (P := Try.prog) (t := 49) (ty := 49) (c := c5) HR5.out HC5.out Try.underlying49 info_int rfl (by decide) (fun _ _ => trivial) HB5.out.size (by have h1 := outIds_length es id; have h2 := inIds_length es id; omega); have HR6 := Lib.hid hR6; have HB6 := Lib.hid (HB5.out.trans hb6); clear hR6 hb6 hg6)
        | (at_builtin; refine list_app rfl rfl rfl rfl hr6 ?_; obtain ⟨A6, c6, rfl, -, hC6⟩ := Kd.R_reads HR6.out; have HC6 := Lib.hid hC6; clear hC6)
        | (go_at_call 112; refine (values_calls A6 _ c6 _).mono ?_; rintro e w7 ⟨rfl, rfl⟩)
        | (go_at_call 89; refine (sortedValues_calls w6.heap.size c6 A6 (outIds es id ++ inIds es id) _ (by rw [List.length_append]; exact blk_cell (blk_new _ _ _) 0) (Kd.C_alloc HC6.out _) (by have h1 := outIds_length es id; have h2 := inIds_length es id; rw [List.length_append]; omega)).mono ?_; rintro e w8 ⟨v8, rfl, hR8, hb8⟩; have HB8 := Lib.hid (keepB0 hb8 (keepB0 (below_al _ _) HB6.out)); have HR8 := Lib.hid (Kd.R_lower (base' := w.heap.size) hR8 (keepB0 (below_al w6 _) HB6.out).size); clear hR8 hb8)
        | (go_at_call 98; refine (compact_ints_calls v8 _ w.heap.size _ HR8.out ?cl).mono ?_; (case cl => rw [srt_length, List.length_append]; have h1 := outIds_length es id; have h2 := inIds_length es id; omega); rintro e w10 ⟨v10, rfl, hR10, hg10, -⟩; have HR10 := Lib.hid hR10; have HB10 := Lib.hid (HB8.out.grown hg10 HB8.out.size (own_base (Kd.own_of_R HR8.out))); clear hR10 hg10; have hk10 := blk_cell (blk_below HB10.out HG.out.blk) 0; simp only [List.getElem?_toArray, List.getElem?_cons_zero, List.getElem?_cons_succ] at hk10; obtain ⟨V10, hV, hZ⟩ := (HG.out.below HB10.out).vm; have HV10 := Lib.hid hV; have HZ10 := Lib.hid hZ; clear hV hZ)
        | (at_delete; refine wpList_mdel _ rfl _ _ 132 3 rfl 24 Try.underlying3 Try.underlying132 m1 V10 rfl HV10.out id rfl hw ?_; intro w11 hI11 hT11; have HT11 := Lib.hid (But.of_turned (S := fun k => k = m1) hT11 rfl); have HG11 := Lib.hid ((HG.out.below HB10.out).delV HZ10.out hI11 HT11.out); have HR11 := Lib.hid (HT11.out.row HR10.out (fun k hk => by rw [hk]; exact (HG.out.below HB10.out).vm.noCells)); obtain ⟨A11, c11, rfl⟩ := Kd.R_slice HR11.out; clear hI11 hT11))
      have hbig : (sortU (outIds es id ++ inIds es id)).length ≤ 1000000 := by
        have h0 := sortU_length (outIds es id ++ inIds es id)
        have h1 := outIds_length es id
        have h2 := inIds_length es id
        rw [List.length_append] at h0
        omega
      have HWF : Hid (∀ n ∈ sortU (outIds es id ++ inIds es id), (Lit.int .i64 n).wf = true) := Lib.hid (fun n hn => by
        rw [mem_sortU, List.mem_append, mem_outIds, mem_inIds] at hn
        rcases hn with ⟨x, hx, -, rfl⟩ | ⟨x, hx, -, rfl⟩
        · exact wf_id (okE_at HE.out hx).1
        · exact wf_id (okE_at HE.out hx).1)
      have HG0 : Hid (GraphAt w11 B g m1 m2 (delK SVert.f0 vs id) (delAll es (List.take 0 (sortU (outIds es id ++ inIds es id))))) := HG11
      have HBut := (But.of_below (fun k => k = m1 ∨ k = m2) HB10.out).trans (HT11.out.mono (fun k hk => .inl hk))
      have HR0 : Hid ((Kd.int .i64).R 3 w11 w.heap.size (fun _ => True) (.slice A11 (sortU (outIds es id ++ inIds es id)).length c11) (sortU (outIds es id ++ inIds es id))) := HR11
      change Code.wp _ _ _ { tmps := _, defers := _ } _
      rw [show Lib.compact (srt (outIds es id ++ inIds es id)) = sortU (outIds es id ++ inIds es id) from rfl]
      clear HR10 HR11 HG11
      generalize sortU (outIds es id ++ inIds es id) = G at HD hbig HWF HG0 HR0 ⊢
      have hnl : G.length ≤ 1000000 := hbig
      have HS0 := Lib.hid HBut; clear HBut
      go_loopw [63] (fun s63 wr => ∃ k : Nat, k ≤ G.length ∧ s63 = .int .i64 k ∧ Hid (GraphAt wr B g m1 m2 (delK SVert.f0 vs id) (delAll es (G.take k))) ∧ Hid ((Kd.int .i64).R 3 wr w.heap.size (fun _ => True) (.slice A11 G.length c11) G) ∧ Hid (But (fun k => k = m1 ∨ k = m2) w wr)) (fun s63 _ => G.length - (intOf s63).toNat)
      case atStart => exact ⟨0, by omega, rfl, HG0, HR0, HS0⟩
      case round =>
        obtain ⟨k, hk, rfl, HGr, HRr, HBr⟩ := hrel
        by_cases hlt : k < G.length
        · have hlt2 : (k : Int) < (G.length : Int) := by omega
          skip
          obtain ⟨ad, e0, g0⟩ := Kd.at_int (Kd.R_reads' HRr.out).2.2 (k : Int) (by omega) (by omega)
          cases e0
          simp only [Int.toNat_natCast, rd] at g0
          have hmem : G.getD k 0 ∈ G := by simp [List.getD_eq_getElem?_getD, List.getElem?_eq_getElem hlt]
          have HT := Lib.hid (take_more G k 0 hlt)
          have hwf := HWF.out _ hmem
          clear hmem
          generalize G.getD k 0 = x at g0 HT hwf
          have hk1 := blk_cell HGr.out.blk 1
          simp only [List.getElem?_toArray, List.getElem?_cons_zero, List.getElem?_cons_succ] at hk1
          obtain ⟨V, hV, hZ⟩ := HGr.out.em
          have HV := Lib.hid hV; have HZ := Lib.hid hZ; clear hV hZ
          go_wp2_with (at_delete; refine wpList_mdel _ rfl _ _ 133 3 rfl 35 Try.underlying3 Try.underlying133 m2 V rfl HV.out x rfl hwf ?_; intro w9 hI9 hT9; have HI9 := Lib.hid hI9; have HT9 := Lib.hid (But.of_turned (S := fun k => k = m2) hT9 rfl); clear hI9 hT9)
          go_roundw
          case rel => exact ⟨k + 1, by omega, by go_num, Lib.hid (by rw [HT.out, delAll_snoc]; exact HGr.out.delE HZ.out HI9.out HT9.out), Lib.hid (HT9.out.row HRr.out (fun k hk => by rw [hk]; exact HGr.out.em.noCells)), Lib.hid (HBr.out.trans (HT9.out.mono (fun k hk => .inr hk)))⟩
          case measure => simp [intOf]; omega
        · have hlt2 : ¬ (k : Int) < (G.length : Int) := by omega
          skip
          go_wp2
          go_ret2
          rw [HD.out]
          have h1 := HGr.out
          rw [List.take_of_length_le (by omega)] at h1
          exact ⟨_, rfl, HRr.out, h1, HBr.out⟩
    | false =>
      rw [hf] at HD hl1
      simp only [if_false, Bool.false_eq_true] at HD
      generalize (findK SEdg.f0 es id).isSome = bE at hl2
      go_enter Try.func81, Try.ntmps81
      go_wp2
      go_ret2
      rw [HD.out]
      exact ⟨_, rfl, Kd.R_nil _ _ _ _ _, HG.out.below HB2.out, But.of_below _ HB2.out⟩
end Go.Proofs.Ytonbnlfijmapfaa
/- web.EdgeText. -/
namespace Go.Proofs.Ytonbnlfijmapfaa
open Go.RowKit Go.Shelf Go.Proofs.YtonbnlfijmapfaaW.PrintWords
set_option linter.unusedVariables false
set_option linter.unusedSimpArgs false

theorem five_size (n : Int) : (strOfNums (fiveBytes n)).size = 5 := strOfNums_size _
theorem body_size {s : ByteArray} {l : List SPrp} (hs : s.size ≤ 100000) (hr : propsRight l = true) (hf : fits l) : (bodyText s l).size ≤ 2200000 := by
  have h1 := propsBytes_size hr hf
  simp only [bodyText, ByteArray.size_append, strOfNums_size, List.length_cons, List.length_nil]
  omega
/-- An edge's text. -/
def edgeText (id : Int) (label : ByteArray) (x y : Int) (ps : List SPrp) : ByteArray := if checkN label ps [id, x, y] = 0 then strOfNums (fiveBytes x) ++ strOfNums (fiveBytes y) ++ bodyText label ps else ⟨#[]⟩
set_option maxRecDepth 100000 in
set_option maxHeartbeats 2000000 in
theorem web_EdgeText_calls (id : Int) (s : ByteArray) (x y : Int) (A : Option Addr) (c : Nat) (l : List SPrp) (w : World) (hs : s.size ≤ 100000) (h : kPrp.C w A l.length l) (hf : fits l) (hg : ranged l) :
    Calls Try.prog 19 #[.agg #[.int .i64 id, .string s, .int .i64 x, .int .i64 y, .slice A l.length c]] w fun e w' => e = .returned (.tuple #[.string (edgeText id s x y l), .int .i64 (checkN s l [id, x, y])]) ∧ Below w.heap.size w w' := by
  have HX := Lib.hid h; clear h
  have HF := Lib.hid hf; clear hf
  have HG := Lib.hid hg; clear hg
  by_cases hc : checkN s l [id, x, y] = 0
  · have hr := (checkN_ok hc).2.2
    have z1 := five_size x
    have z2 := five_size y
    have z3 := body_size hs hr HF.out
    go_enter Try.func19, Try.ntmps19
    go_wp2_with (first
      | (go_at_call 46; refine (graph_Check_calls _ _ _ _ 3 l [id, x, y] _ hs ?hP HF.out ?hI).mono ?_; (case hP => exact Kd.C_below HX.out (keepB0 (below_al _ _) (below_al w _))); (case hI => exact C_boxesg (by simp) [id, x, y] .i64 (by simp)); rw [hc]; rintro e w1 ⟨rfl, hb1⟩; have K1 := Lib.hid (blk_below hb1 (blk_alloc (blk_new w #[.int .i64 id, .string s, .int .i64 x, .int .i64 y, .slice A l.length c] 35) _)); have HB1 := Lib.hid (keepB0 hb1 (keepB0 (below_al _ _) (below_al w _))); clear hb1))
    refine wp_region_held_drew (S := (fun w' => Blk w' w.heap.size #[.int .i64 id, .string s, .int .i64 x, .int .i64 y, .slice A l.length c] 35 ∧ Below w.heap.size w w')) (by kernel_rfl) ?hS101 (fun hH0 => ?_)
    case hS101 => exact ⟨blk_drew K1.out, below_drew HB1.out⟩
    refine takeY (oi := { dst := some 20, op := Op.fieldAddr 35 (Operand.tmp 1) 2, type := 0, pos := "web.go:127", after := #[], guard := none }) 0 (some 20) (v := ?v0_102) rfl rfl (by kernel_rfl) (by kernel_rfl) (by kernel_rfl) (fun _ _ _ h => h) (by kernel_rfl) ?hy102 hH0 ?_
    case hy102 => (intro w_ hSw; (try dsimp only at hSw); go_simp; (first | done | with_reducible rfl | rw [if_neg (by omega)]))
    simp only [Act.put, List.setIfInBounds_toArray, List.set_cons_zero, List.set_cons_succ]
    refine takeY (oi := { dst := some 21, op := Op.load 3 (Operand.tmp 20), type := 3, pos := "web.go:127", after := #[{ on := 0, ground := Ground.data }], guard := none }) 1 (some 21) (v := ?v1_103) rfl rfl (by kernel_rfl) (by kernel_rfl) (by kernel_rfl) (fun _ _ _ h => h) (by kernel_rfl) ?hy103 hH0 ?_
    case hy103 => (intro w_ hSw; (try dsimp only at hSw); (have hc := blk_cell hSw.1 2; go_simp; (first | done | with_reducible rfl)))
    simp only [Act.put, List.setIfInBounds_toArray, List.set_cons_zero, List.set_cons_succ]
    refine takeY (oi := { dst := some 23, op := Op.fieldAddr 35 (Operand.tmp 1) 3, type := 0, pos := "web.go:127", after := #[], guard := none }) 3 (some 23) (v := ?v3_104) rfl rfl (by kernel_rfl) (by kernel_rfl) (by kernel_rfl) (fun _ _ _ h => h) (by kernel_rfl) ?hy104 hH0 ?_
    case hy104 => (intro w_ hSw; (try dsimp only at hSw); go_simp; (first | done | with_reducible rfl | rw [if_neg (by omega)]))
    simp only [Act.put, List.setIfInBounds_toArray, List.set_cons_zero, List.set_cons_succ]
    refine takeY (oi := { dst := some 24, op := Op.load 3 (Operand.tmp 23), type := 3, pos := "web.go:127", after := #[{ on := 3, ground := Ground.data }], guard := none }) 4 (some 24) (v := ?v4_105) rfl rfl (by kernel_rfl) (by kernel_rfl) (by kernel_rfl) (fun _ _ _ h => h) (by kernel_rfl) ?hy105 hH0 ?_
    case hy105 => (intro w_ hSw; (try dsimp only at hSw); (have hc := blk_cell hSw.1 3; go_simp; (first | done | with_reducible rfl)))
    simp only [Act.put, List.setIfInBounds_toArray, List.set_cons_zero, List.set_cons_succ]
    refine takeY (oi := { dst := some 27, op := Op.fieldAddr 35 (Operand.tmp 1) 1, type := 0, pos := "web.go:127", after := #[], guard := none }) 7 (some 27) (v := ?v7_106) rfl rfl (by kernel_rfl) (by kernel_rfl) (by kernel_rfl) (fun _ _ _ h => h) (by kernel_rfl) ?hy106 hH0 ?_
    case hy106 => (intro w_ hSw; (try dsimp only at hSw); go_simp; (first | done | with_reducible rfl | rw [if_neg (by omega)]))
    simp only [Act.put, List.setIfInBounds_toArray, List.set_cons_zero, List.set_cons_succ]
    refine takeY (oi := { dst := some 28, op := Op.load 9 (Operand.tmp 27), type := 9, pos := "web.go:127", after := #[{ on := 7, ground := Ground.data }], guard := none }) 8 (some 28) (v := ?v8_107) rfl rfl (by kernel_rfl) (by kernel_rfl) (by kernel_rfl) (fun _ _ _ h => h) (by kernel_rfl) ?hy107 hH0 ?_
    case hy107 => (intro w_ hSw; (try dsimp only at hSw); (have hc := blk_cell hSw.1 1; go_simp; (first | done | with_reducible rfl)))
    simp only [Act.put, List.setIfInBounds_toArray, List.set_cons_zero, List.set_cons_succ]
    refine takeY (oi := { dst := some 29, op := Op.fieldAddr 35 (Operand.tmp 1) 4, type := 0, pos := "web.go:127", after := #[], guard := none }) 9 (some 29) (v := ?v9_108) rfl rfl (by kernel_rfl) (by kernel_rfl) (by kernel_rfl) (fun _ _ _ h => h) (by kernel_rfl) ?hy108 hH0 ?_
    case hy108 => (intro w_ hSw; (try dsimp only at hSw); go_simp; (first | done | with_reducible rfl | rw [if_neg (by omega)]))
    simp only [Act.put, List.setIfInBounds_toArray, List.set_cons_zero, List.set_cons_succ]
    refine takeY (oi := { dst := some 30, op := Op.load 22 (Operand.tmp 29), type := 22, pos := "web.go:127", after := #[{ on := 9, ground := Ground.data }], guard := none }) 10 (some 30) (v := ?v10_109) rfl rfl (by kernel_rfl) (by kernel_rfl) (by kernel_rfl) (fun _ _ _ h => h) (by kernel_rfl) ?hy109 hH0 ?_
    case hy109 => (intro w_ hSw; (try dsimp only at hSw); (have hc := blk_cell hSw.1 4; go_simp; (first | done | with_reducible rfl)))
    simp only [Act.put, List.setIfInBounds_toArray, List.set_cons_zero, List.set_cons_succ]
    refine wpAnyH_ready (rs := [2]) (by kernel_rfl) (by simp) ?_
    refine AllReadyH.cons (o := { dst := some 22, op := Op.call { callee := Callee.value (Operand.func 71), args := #[Operand.tmp 21], argTypes := #[3] }, type := 9, pos := "web.go:127", after := #[{ on := 1, ground := Ground.data }], guard := none }) rfl (fun K1 hK1 => ?_) AllReadyH.nil
    go_simp; refine (web_five_calls _ _).mono ?_; rintro e w2 ⟨rfl, hb2⟩
    refine hK1.out _ _ ?hS110 (fun hH1 => ?_)
    case hS110 => ((try dsimp only); (exact ⟨blk_below hb2 hH0.1, keepB0 hb2 hH0.2⟩))
    clear hK1 K1
    (try clear hH0)
    (try simp only [Act.put, List.setIfInBounds_toArray, List.set_cons_zero, List.set_cons_succ])
    refine wpAnyH_ready (rs := [5]) (by kernel_rfl) (by simp) ?_
    refine AllReadyH.cons (o := { dst := some 25, op := Op.call { callee := Callee.value (Operand.func 71), args := #[Operand.tmp 24], argTypes := #[3] }, type := 9, pos := "web.go:127", after := #[{ on := 4, ground := Ground.data }, { on := 2, ground := Ground.chain }], guard := none }) rfl (fun K2 hK2 => ?_) AllReadyH.nil
    go_simp; refine (web_five_calls _ _).mono ?_; rintro e w3 ⟨rfl, hb3⟩
    refine hK2.out _ _ ?hS111 (fun hH2 => ?_)
    case hS111 => ((try dsimp only); (exact ⟨blk_below hb3 hH1.1, keepB0 hb3 hH1.2⟩))
    clear hK2 K2
    (try clear hH1)
    (try simp only [Act.put, List.setIfInBounds_toArray, List.set_cons_zero, List.set_cons_succ])
    refine takeY (oi := { dst := some 26, op := Op.binOp BinOp.add 9 (Operand.tmp 22) (Operand.tmp 25) 9, type := 9, pos := "web.go:127", after := #[{ on := 2, ground := Ground.data }, { on := 5, ground := Ground.data }], guard := none }) 6 (some 26) (v := ?v6_112) rfl rfl (by kernel_rfl) (by kernel_rfl) (by kernel_rfl) (fun _ _ _ h => h) (by kernel_rfl) ?hy112 hH2 ?_
    case hy112 => (intro w_ hSw; (try dsimp only at hSw); go_simp; (first | done | with_reducible rfl | rw [if_neg (by omega)]))
    simp only [Act.put, List.setIfInBounds_toArray, List.set_cons_zero, List.set_cons_succ]
    refine wpAnyH_ready (rs := [11]) (by kernel_rfl) (by simp) ?_
    refine AllReadyH.cons (o := { dst := some 31, op := Op.call { callee := Callee.value (Operand.func 69), args := #[Operand.tmp 28, Operand.tmp 30], argTypes := #[9, 22] }, type := 9, pos := "web.go:127", after := #[{ on := 8, ground := Ground.data }, { on := 10, ground := Ground.data }, { on := 5, ground := Ground.chain }], guard := none }) rfl (fun K3 hK3 => ?_) AllReadyH.nil
    go_simp; refine (web_text_calls _ _ _ _ _ hs (Kd.C_below HX.out hH2.2) HF.out HG.out hr).mono ?_; rintro e w4 ⟨rfl, hb4⟩
    refine hK3.out _ _ ?hS113 (fun hH3 => ?_)
    case hS113 => ((try dsimp only); (exact ⟨blk_below hb4 hH2.1, keepB0 hb4 hH2.2⟩))
    clear hK3 K3
    (try clear hH2)
    (try simp only [Act.put, List.setIfInBounds_toArray, List.set_cons_zero, List.set_cons_succ])
    refine takeY (oi := { dst := some 32, op := Op.binOp BinOp.add 9 (Operand.tmp 26) (Operand.tmp 31) 9, type := 9, pos := "web.go:127", after := #[{ on := 6, ground := Ground.data }, { on := 11, ground := Ground.data }], guard := none }) 12 (some 32) (v := ?v12_114) rfl rfl (by kernel_rfl) (by kernel_rfl) (by kernel_rfl) (fun _ _ _ h => h) (by kernel_rfl) ?hy114 hH3 ?_
    case hy114 => (intro w_ hSw; (try dsimp only at hSw); go_simp; (first | done | with_reducible rfl | rw [if_neg (by omega)]))
    simp only [Act.put, List.setIfInBounds_toArray, List.set_cons_zero, List.set_cons_succ]
    refine takeY (oi := { dst := some 2, op := Op.assign (Operand.tmp 32), type := 9, pos := "web.go:127", after := #[{ on := 12, ground := Ground.data }, { on := 11, ground := Ground.chain }, { on := 0, ground := Ground.phase }, { on := 1, ground := Ground.phase }, { on := 2, ground := Ground.phase }, { on := 3, ground := Ground.phase }, { on := 4, ground := Ground.phase }, { on := 5, ground := Ground.phase }, { on := 6, ground := Ground.phase }, { on := 7, ground := Ground.phase }, { on := 8, ground := Ground.phase }, { on := 9, ground := Ground.phase }, { on := 10, ground := Ground.phase }, { on := 11, ground := Ground.phase }, { on := 12, ground := Ground.phase }], guard := none }) 13 (some 2) (v := ?v13_115) rfl rfl (by kernel_rfl) (by kernel_rfl) (by kernel_rfl) (fun _ _ _ h => h) (by kernel_rfl) ?hy115 hH3 ?_
    case hy115 => (intro w_ hSw; (try dsimp only at hSw); go_simp; (first | done | with_reducible rfl | rw [if_neg (by omega)]))
    simp only [Act.put, List.setIfInBounds_toArray, List.set_cons_zero, List.set_cons_succ]
    refine takeY (oi := { dst := some 3, op := Op.assign (Operand.const (Value.int IntKind.i64 0)), type := 28, pos := "web.go:127", after := #[{ on := 13, ground := Ground.chain }, { on := 0, ground := Ground.phase }, { on := 1, ground := Ground.phase }, { on := 2, ground := Ground.phase }, { on := 3, ground := Ground.phase }, { on := 4, ground := Ground.phase }, { on := 5, ground := Ground.phase }, { on := 6, ground := Ground.phase }, { on := 7, ground := Ground.phase }, { on := 8, ground := Ground.phase }, { on := 9, ground := Ground.phase }, { on := 10, ground := Ground.phase }, { on := 11, ground := Ground.phase }, { on := 12, ground := Ground.phase }, { on := 13, ground := Ground.phase }], guard := none }) 14 (some 3) (v := ?v14_116) rfl rfl (by kernel_rfl) (by kernel_rfl) (by kernel_rfl) (fun _ _ _ h => h) (by kernel_rfl) ?hy116 hH3 ?_
    case hy116 => (intro w_ hSw; (try dsimp only at hSw); go_simp; (first | done | with_reducible rfl | rw [if_neg (by omega)]))
    simp only [Act.put, List.setIfInBounds_toArray, List.set_cons_zero, List.set_cons_succ]
    refine wpAnyH_done (by kernel_rfl) ?_ _
    have hEnd := hH3
    clear hH3
    have HE := Lib.hid hEnd.2
    go_wp2
    go_ret2
    exact ⟨by rw [edgeText, if_pos hc, hc]; rfl, HE.out⟩
  · go_enter Try.func19, Try.ntmps19
    go_wp2_with (
      (go_at_call 46; refine (graph_Check_calls _ _ _ _ 3 l [id, x, y] _ hs ?hP HF.out ?hI).mono ?_; (case hP => exact Kd.C_below HX.out (keepB0 (below_al _ _) (below_al w _))); (case hI => exact C_boxesg (by simp) [id, x, y] .i64 (by simp)); rintro e w1 ⟨rfl, hb1⟩; have HB1 := Lib.hid (keepB0 hb1 (keepB0 (below_al _ _) (below_al w _))); clear hb1))
    go_ret2
    exact ⟨by rw [edgeText, if_neg hc]; rfl, HB1.out⟩
end Go.Proofs.Ytonbnlfijmapfaa
/- web.Entries. -/
namespace Go.Proofs.Ytonbnlfijmapfaa
open Go.RowKit Go.Shelf Go.Proofs.YtonbnlfijmapfaaW.PrintWords
set_option linter.unusedVariables false
set_option linter.unusedSimpArgs false

def propEntry (id : Int) (label : ByteArray) (p : SPrp) : SEntry := ⟨strOfNums [80] ++ label ++ strOfNums [32] ++ p.f0, strOfNums (valBytes p.f1.f0 p.f1.f1 p.f1.f2) ++ strOfNums (fiveBytes id)⟩
def entries (id : Int) (label : ByteArray) (ps : List SPrp) : List SEntry := if checkN label ps [id] = 0 then ⟨strOfNums [76] ++ label, strOfNums (fiveBytes id)⟩ :: ps.map (propEntry id label) else []

theorem map_take {α β : Type} (g : α → β) (l : List α) (k : Nat) (z : α) (h : k < l.length) : (l.take (k + 1)).map g = (l.take k).map g ++ [g (l.getD k z)] := by
  rw [List.take_succ_eq_append_getElem h]
  simp only [List.map_append, List.getD_eq_getElem?_getD, List.getElem?_eq_getElem h, Option.getD_some, List.map_cons, List.map_nil]

set_option maxRecDepth 100000 in
set_option maxHeartbeats 4000000 in
theorem web_Entries_calls (id : Int) (s : ByteArray) (A : Option Addr) (c : Nat) (l : List SPrp) (w : World) (hs : s.size ≤ 100000) (h : kPrp.C w A l.length l) (hf : fits l) (hg : ranged l) :
    Calls Try.prog 20 #[.agg #[.int .i64 id, .string s, .slice A l.length c]] w fun e w' => ∃ v, e = .returned v ∧ kEntry.R 39 w' w.heap.size (fun _ => True) v (entries id s l) ∧ Below w.heap.size w w' := by
  have HX := Lib.hid h; clear h
  have HF := Lib.hid hf; clear hf
  have HG := Lib.hid hg; clear hg
  by_cases hc : checkN s l [id] = 0
  · have hr := (checkN_ok hc).2.2
    obtain ⟨hok, h16⟩ := propsRight_ok hr
    have HO := Lib.hid hok; clear hok
    have HE := Lib.hid (show entries id s l = ⟨strOfNums [76] ++ s, strOfNums (fiveBytes id)⟩ :: l.map (propEntry id s) by rw [entries, if_pos hc])
    have z1 := five_size id
    go_enter Try.func20, Try.ntmps20
    go_wp2_with (
      (go_at_call 46; refine (graph_Check_calls _ _ _ _ 1 l [id] _ hs ?hP HF.out ?hI).mono ?_; (case hP => exact Kd.C_below HX.out (keepB0 (below_al _ _) (below_al w _))); (case hI => exact C_boxg (Kd.int .i64) (by decide) _ _ (by simp) id #[.int .i64 id] _ rfl); rw [hc]; rintro e w1 ⟨rfl, hb1⟩; have K1 := Lib.hid (blk_below hb1 (blk_alloc (blk_new w #[.int .i64 id, .string s, .slice A l.length c] 24) _)); have HB1 := Lib.hid (keepB0 hb1 (keepB0 (below_al _ _) (below_al w _))); clear hb1))
    refine wp_region_held_drew (S := (fun w' => Blk w' w.heap.size #[.int .i64 id, .string s, .slice A l.length c] 24 ∧ Below w.heap.size w w')) (by kernel_rfl) ?hS101 (fun hH0 => ?_)
    case hS101 => exact ⟨blk_drew K1.out, below_drew HB1.out⟩
    refine takeY (oi := { dst := some 17, op := Op.fieldAddr 24 (Operand.tmp 1) 1, type := 0, pos := "web.go:72", after := #[], guard := none }) 0 (some 17) (v := ?v0_102) rfl rfl (by kernel_rfl) (by kernel_rfl) (by kernel_rfl) (fun _ _ _ h => h) (by kernel_rfl) ?hy102 hH0 ?_
    case hy102 => (intro w_ hSw; (try dsimp only at hSw); go_simp; (first | done | with_reducible rfl | rw [if_neg (by omega)]))
    simp only [Act.put, List.setIfInBounds_toArray, List.set_cons_zero, List.set_cons_succ]
    refine takeY (oi := { dst := some 18, op := Op.load 9 (Operand.tmp 17), type := 9, pos := "web.go:72", after := #[{ on := 0, ground := Ground.data }], guard := none }) 1 (some 18) (v := ?v1_103) rfl rfl (by kernel_rfl) (by kernel_rfl) (by kernel_rfl) (fun _ _ _ h => h) (by kernel_rfl) ?hy103 hH0 ?_
    case hy103 => (intro w_ hSw; (try dsimp only at hSw); (have hc := blk_cell hSw.1 1; go_simp; (first | done | with_reducible rfl)))
    simp only [Act.put, List.setIfInBounds_toArray, List.set_cons_zero, List.set_cons_succ]
    refine takeY (oi := { dst := some 20, op := Op.fieldAddr 24 (Operand.tmp 1) 0, type := 0, pos := "web.go:72", after := #[], guard := none }) 3 (some 20) (v := ?v3_104) rfl rfl (by kernel_rfl) (by kernel_rfl) (by kernel_rfl) (fun _ _ _ h => h) (by kernel_rfl) ?hy104 hH0 ?_
    case hy104 => (intro w_ hSw; (try dsimp only at hSw); go_simp; (first | done | with_reducible rfl | rw [if_neg (by omega)]))
    simp only [Act.put, List.setIfInBounds_toArray, List.set_cons_zero, List.set_cons_succ]
    refine takeY (oi := { dst := some 21, op := Op.load 3 (Operand.tmp 20), type := 3, pos := "web.go:72", after := #[{ on := 3, ground := Ground.data }], guard := none }) 4 (some 21) (v := ?v4_105) rfl rfl (by kernel_rfl) (by kernel_rfl) (by kernel_rfl) (fun _ _ _ h => h) (by kernel_rfl) ?hy105 hH0 ?_
    case hy105 => (intro w_ hSw; (try dsimp only at hSw); (have hc := blk_cell hSw.1 0; go_simp; (first | done | with_reducible rfl)))
    simp only [Act.put, List.setIfInBounds_toArray, List.set_cons_zero, List.set_cons_succ]
    refine wpAnyH_ready (rs := [2]) (by kernel_rfl) (by simp) ?_
    refine AllReadyH.cons (o := { dst := some 19, op := Op.call { callee := Callee.value (Operand.func 33), args := #[Operand.tmp 18], argTypes := #[9] }, type := 9, pos := "web.go:72", after := #[{ on := 1, ground := Ground.data }], guard := none }) rfl (fun K1 hK1 => ?_) AllReadyH.nil
    go_simp; refine (web_LabelIndex_calls _ _ (by omega)).mono ?_; rintro e w2 ⟨rfl, rfl⟩
    refine hK1.out _ _ ?hS106 (fun hH1 => ?_)
    case hS106 => ((try dsimp only); (exact hH0))
    clear hK1 K1
    (try clear hH0)
    (try simp only [Act.put, List.setIfInBounds_toArray, List.set_cons_zero, List.set_cons_succ])
    refine wpAnyH_ready (rs := [5]) (by kernel_rfl) (by simp) ?_
    refine AllReadyH.cons (o := { dst := some 22, op := Op.call { callee := Callee.value (Operand.func 71), args := #[Operand.tmp 21], argTypes := #[3] }, type := 9, pos := "web.go:72", after := #[{ on := 4, ground := Ground.data }, { on := 2, ground := Ground.chain }], guard := none }) rfl (fun K2 hK2 => ?_) AllReadyH.nil
    go_simp; refine (web_five_calls _ _).mono ?_; rintro e w3 ⟨rfl, hb3⟩; have hB3 := Nat.le_trans hH1.2.size hb3.size
    refine hK2.out _ _ ?hS107 (fun hH2 => ?_)
    case hS107 => ((try dsimp only); (exact ⟨blk_below hb3 hH1.1, keepB0 hb3 hH1.2⟩))
    clear hK2 K2
    (try clear hH1)
    (try simp only [Act.put, List.setIfInBounds_toArray, List.set_cons_zero, List.set_cons_succ])
    refine takeY (oi := { dst := some 23, op := Op.build 39 #[(0, Operand.tmp 19), (1, Operand.tmp 22)], type := 39, pos := "web.go:72", after := #[{ on := 2, ground := Ground.data }, { on := 5, ground := Ground.data }], guard := none }) 6 (some 23) (v := ?v6_108) rfl rfl (by kernel_rfl) (by kernel_rfl) (by kernel_rfl) (fun _ _ _ h => h) (by kernel_rfl) ?hy108 hH2 ?_
    case hy108 => (intro w_ hSw; (try dsimp only at hSw); go_simp; (first | done | with_reducible rfl | rw [if_neg (by omega)]))
    simp only [Act.put, List.setIfInBounds_toArray, List.set_cons_zero, List.set_cons_succ]
    refine wpAnyH_ready (rs := [7]) (by kernel_rfl) (by simp) ?_
    refine AllReadyH.cons (o := { dst := some 24, op := Op.buildSlice 36 1 #[(0, Operand.tmp 23)], type := 36, pos := "web.go:72", after := #[{ on := 6, ground := Ground.data }], guard := none }) rfl (fun K3 hK3 => ?_) AllReadyH.nil
    go_simp
    refine hK3.out _ _ ?hS109 (fun hH3 => ?_)
    case hS109 => ((try dsimp only); (exact ⟨blk_alloc hH2.1 _, keepB0 (below_al _ _) hH2.2⟩))
    clear hK3 K3
    (try clear hH2)
    (try simp only [Act.put, List.setIfInBounds_toArray, List.set_cons_zero, List.set_cons_succ])
    refine takeY (oi := { dst := some 3, op := Op.assign (Operand.tmp 24), type := 36, pos := "web.go:72", after := #[{ on := 7, ground := Ground.data }, { on := 5, ground := Ground.chain }, { on := 0, ground := Ground.phase }, { on := 1, ground := Ground.phase }, { on := 2, ground := Ground.phase }, { on := 3, ground := Ground.phase }, { on := 4, ground := Ground.phase }, { on := 5, ground := Ground.phase }, { on := 6, ground := Ground.phase }, { on := 7, ground := Ground.phase }], guard := none }) 8 (some 3) (v := ?v8_110) rfl rfl (by kernel_rfl) (by kernel_rfl) (by kernel_rfl) (fun _ _ _ h => h) (by kernel_rfl) ?hy110 hH3 ?_
    case hy110 => (intro w_ hSw; (try dsimp only at hSw); go_simp; (first | done | with_reducible rfl | rw [if_neg (by omega)]))
    simp only [Act.put, List.setIfInBounds_toArray, List.set_cons_zero, List.set_cons_succ]
    refine wpAnyH_done (by kernel_rfl) ?_ _
    have hEnd := hH3
    clear hH3
    have HB3 := Lib.hid hEnd.2
    have K3 := Lib.hid hEnd.1
    have c2 : (w3.alloc (.cells #[.string (strOfNums [76] ++ s), .string (strOfNums (fiveBytes id))] 39)).cell? ⟨w.heap.size, 2, none⟩ = some (.slice A l.length c) := blk_cell K3.out 2
    have HR0 := Lib.hid (R_boxd kEntry (W := w3) (T := 39) ⟨strOfNums [76] ++ s, strOfNums (fiveBytes id)⟩ #[.string (strOfNums [76] ++ s), .string (strOfNums (fiveBytes id))] (kEntry_mkM _ _ _ _) hB3)
    go_wp2
    go_loopw [3, 28] (fun v3 v28 wr => ∃ (k : Nat), k ≤ l.length ∧ v28 = .int .i64 k ∧ Hid (Below w.heap.size w wr) ∧ Hid (Blk wr w.heap.size #[.int .i64 id, .string s, .slice A l.length c] 24) ∧ Hid (kEntry.R 39 wr w.heap.size (fun _ => True) v3 (⟨strOfNums [76] ++ s, strOfNums (fiveBytes id)⟩ :: (l.take k).map (propEntry id s)))) (fun _ v28 _ => l.length - (intOf v28).toNat)
    case atStart => exact ⟨0, by omega, rfl, HB3, K3, HR0⟩
    case round =>
      obtain ⟨k, hk, rfl, HB, HK, HR⟩ := hrel
      by_cases hlt : k < l.length
      · have hlt2 : (k : Int) < (l.length : Int) := by omega
        have hmem : l.getD k zPrp ∈ l := by simp [List.getD_eq_getElem?_getD, List.getElem?_eq_getElem hlt]
        have hsz := HF.out _ hmem
        have hrg := HG.out _ hmem
        have hvo := (HO.out _ hmem).2
        have HT := Lib.hid (map_take (propEntry id s) l k zPrp hlt)
        have hL2 := List.length_take_le k l
        obtain ⟨ad, rfl, g0, g1, g2, g3⟩ := at_Prp (Kd.C_below HX.out HB.out) (k : Int) (by omega) (by omega)
        simp only [Int.toNat_natCast, rd_Prp] at g0 g1 g2 g3
        cases hy : l.getD k zPrp with
        | mk y0 yv =>
        cases yv with
        | mk y1 y2 y3 =>
        rw [hy] at g0 g1 g2 g3 hsz hrg hvo HT
        clear hy hmem
        simp only at g0 g1 g2 g3 hsz hrg hvo
        have hvl := valBytes_length (k := y1) (n := y2) (s := y3) hvo
        have hvz := strOfNums_size (valBytes y1 y2 y3)
        go_wp2_with (go_at_call 72; refine (value_Bytes_calls y1 y2 y3 _ hrg.1 hrg.2 hvo).mono ?_; rintro e w7 ⟨v7, rfl, hR7, hb7⟩; have HR7 := Lib.hid hR7; have HB7 := Lib.hid hb7; clear hR7 hb7)
        have HB0 : Below w.heap.size w w7.drew := below_drew (keepB0 HB7.out (keepB0 (below_al _ _) HB.out))
        have HK7 := Lib.hid (blk_drew (blk_below HB7.out (blk_alloc HK.out (.cells #[.string y0, .int .i64 y1, .int .i64 y2, .string y3] 117))))
        have HP7 := Lib.hid (blk_drew (blk_below HB7.out (blk_new wr #[.string y0, .int .i64 y1, .int .i64 y2, .string y3] 117)))
        have HR4 := Lib.hid (Kd.R_drew (Kd.R_below (Kd.R_alloc HR.out (.cells #[.string y0, .int .i64 y1, .int .i64 y2, .string y3] 117)) HB7.out))
        have hB4 : w.heap.size ≤ w7.drew.heap.size := HB0.size
        go_wp2_with fail
        refine wp_region_held_drew (S := (fun w' => Blk w' w.heap.size #[.int .i64 id, .string s, .slice (some ad) l.length c] 24 ∧ Blk w' wr.heap.size #[.string y0, .int .i64 y1, .int .i64 y2, .string y3] 117 ∧ (Kd.int .u8).R 5 w' (wr.alloc (.cells #[.string y0, .int .i64 y1, .int .i64 y2, .string y3] 117)).heap.size (fun _ => True) v7 (valBytes y1 y2 y3) ∧ Below w.heap.size w w')) (by kernel_rfl) ?hS201 (fun hH0 => ?_)
        case hS201 => exact ⟨HK7.out, HP7.out, Kd.R_drew HR7.out, HB0⟩
        refine takeY (oi := { dst := some 38, op := Op.move (Operand.tmp 3), type := 36, pos := "web.go:75", after := #[], guard := none }) 0 (some 38) (v := ?v0_202) rfl rfl (by kernel_rfl) (by kernel_rfl) (by kernel_rfl) (fun _ _ _ h => h) (by kernel_rfl) ?hy202 hH0 ?_
        case hy202 => (intro w_ hSw; (try dsimp only at hSw); go_simp; (first | done | with_reducible rfl | rw [if_neg (by omega)]))
        simp only [Act.put, List.setIfInBounds_toArray, List.set_cons_zero, List.set_cons_succ]
        refine takeY (oi := { dst := some 39, op := Op.fieldAddr 24 (Operand.tmp 1) 1, type := 0, pos := "web.go:75", after := #[], guard := none }) 1 (some 39) (v := ?v1_203) rfl rfl (by kernel_rfl) (by kernel_rfl) (by kernel_rfl) (fun _ _ _ h => h) (by kernel_rfl) ?hy203 hH0 ?_
        case hy203 => (intro w_ hSw; (try dsimp only at hSw); go_simp; (first | done | with_reducible rfl | rw [if_neg (by omega)]))
        simp only [Act.put, List.setIfInBounds_toArray, List.set_cons_zero, List.set_cons_succ]
        refine takeY (oi := { dst := some 40, op := Op.load 9 (Operand.tmp 39), type := 9, pos := "web.go:75", after := #[{ on := 1, ground := Ground.data }], guard := none }) 2 (some 40) (v := ?v2_204) rfl rfl (by kernel_rfl) (by kernel_rfl) (by kernel_rfl) (fun _ _ _ h => h) (by kernel_rfl) ?hy204 hH0 ?_
        case hy204 => (intro w_ hSw; (try dsimp only at hSw); (have hc := blk_cell hSw.1 1; go_simp; (first | done | with_reducible rfl)))
        simp only [Act.put, List.setIfInBounds_toArray, List.set_cons_zero, List.set_cons_succ]
        refine takeY (oi := { dst := some 41, op := Op.fieldAddr 117 (Operand.tmp 5) 0, type := 0, pos := "web.go:75", after := #[], guard := none }) 3 (some 41) (v := ?v3_205) rfl rfl (by kernel_rfl) (by kernel_rfl) (by kernel_rfl) (fun _ _ _ h => h) (by kernel_rfl) ?hy205 hH0 ?_
        case hy205 => (intro w_ hSw; (try dsimp only at hSw); go_simp; (first | done | with_reducible rfl | rw [if_neg (by omega)]))
        simp only [Act.put, List.setIfInBounds_toArray, List.set_cons_zero, List.set_cons_succ]
        refine takeY (oi := { dst := some 42, op := Op.load 9 (Operand.tmp 41), type := 9, pos := "web.go:75", after := #[{ on := 3, ground := Ground.data }], guard := none }) 4 (some 42) (v := ?v4_206) rfl rfl (by kernel_rfl) (by kernel_rfl) (by kernel_rfl) (fun _ _ _ h => h) (by kernel_rfl) ?hy206 hH0 ?_
        case hy206 => (intro w_ hSw; (try dsimp only at hSw); (have hc := blk_cell hSw.2.1 0; go_simp; (first | done | with_reducible rfl)))
        simp only [Act.put, List.setIfInBounds_toArray, List.set_cons_zero, List.set_cons_succ]
        refine takeY (oi := { dst := some 44, op := Op.move (Operand.tmp 6), type := 46, pos := "web.go:75", after := #[], guard := none }) 6 (some 44) (v := ?v6_207) rfl rfl (by kernel_rfl) (by kernel_rfl) (by kernel_rfl) (fun _ _ _ h => h) (by kernel_rfl) ?hy207 hH0 ?_
        case hy207 => (intro w_ hSw; (try dsimp only at hSw); go_simp; (first | done | with_reducible rfl | rw [if_neg (by omega)]))
        simp only [Act.put, List.setIfInBounds_toArray, List.set_cons_zero, List.set_cons_succ]
        refine takeY (oi := { dst := some 45, op := Op.convert 46 9 (Operand.tmp 44), type := 9, pos := "web.go:75", after := #[{ on := 6, ground := Ground.data }], guard := none }) 7 (some 45) (v := ?v7_208) rfl rfl (by kernel_rfl) (by kernel_rfl) (by kernel_rfl) (fun _ _ _ h => h) (by kernel_rfl) ?hy208 hH0 ?_
        case hy208 => (intro w_ hSw; (try dsimp only at hSw); (have hc := str_R hSw.2.2.1 (Below.refl _ _); go_simp; (first | done | with_reducible rfl)))
        simp only [Act.put, List.setIfInBounds_toArray, List.set_cons_zero, List.set_cons_succ]
        refine takeY (oi := { dst := some 46, op := Op.fieldAddr 24 (Operand.tmp 1) 0, type := 0, pos := "web.go:75", after := #[], guard := none }) 8 (some 46) (v := ?v8_209) rfl rfl (by kernel_rfl) (by kernel_rfl) (by kernel_rfl) (fun _ _ _ h => h) (by kernel_rfl) ?hy209 hH0 ?_
        case hy209 => (intro w_ hSw; (try dsimp only at hSw); go_simp; (first | done | with_reducible rfl | rw [if_neg (by omega)]))
        simp only [Act.put, List.setIfInBounds_toArray, List.set_cons_zero, List.set_cons_succ]
        refine takeY (oi := { dst := some 47, op := Op.load 3 (Operand.tmp 46), type := 3, pos := "web.go:75", after := #[{ on := 8, ground := Ground.data }], guard := none }) 9 (some 47) (v := ?v9_210) rfl rfl (by kernel_rfl) (by kernel_rfl) (by kernel_rfl) (fun _ _ _ h => h) (by kernel_rfl) ?hy210 hH0 ?_
        case hy210 => (intro w_ hSw; (try dsimp only at hSw); (have hc := blk_cell hSw.1 0; go_simp; (first | done | with_reducible rfl)))
        simp only [Act.put, List.setIfInBounds_toArray, List.set_cons_zero, List.set_cons_succ]
        refine wpAnyH_ready (rs := [5]) (by kernel_rfl) (by simp) ?_
        refine AllReadyH.cons (o := { dst := some 43, op := Op.call { callee := Callee.value (Operand.func 34), args := #[Operand.tmp 40, Operand.tmp 42], argTypes := #[9, 9] }, type := 9, pos := "web.go:75", after := #[{ on := 2, ground := Ground.data }, { on := 4, ground := Ground.data }], guard := none }) rfl (fun K1 hK1 => ?_) AllReadyH.nil
        go_simp; refine (web_ValueIndex_calls _ _ _ (by omega) (by omega)).mono ?_; rintro e w2 ⟨rfl, rfl⟩
        refine hK1.out _ _ ?hS211 (fun hH1 => ?_)
        case hS211 => ((try dsimp only); (exact hH0))
        clear hK1 K1
        (try clear hH0)
        (try simp only [Act.put, List.setIfInBounds_toArray, List.set_cons_zero, List.set_cons_succ])
        refine wpAnyH_ready (rs := [10]) (by kernel_rfl) (by simp) ?_
        refine AllReadyH.cons (o := { dst := some 48, op := Op.call { callee := Callee.value (Operand.func 71), args := #[Operand.tmp 47], argTypes := #[3] }, type := 9, pos := "web.go:75", after := #[{ on := 9, ground := Ground.data }, { on := 5, ground := Ground.chain }], guard := none }) rfl (fun K2 hK2 => ?_) AllReadyH.nil
        go_simp; refine (web_five_calls _ _).mono ?_; rintro e w9 ⟨rfl, hb9⟩; have hR9 := Kd.R_below HR4.out hb9; have hB9 := Nat.le_trans hB4 hb9.size; have q1 := blk_below hb9 hH1.1; have q2 := blk_below hb9 hH1.2.1; have q3 := Kd.R_below hH1.2.2.1 hb9; have q4 := keepB0 hb9 hH1.2.2.2
        refine hK2.out _ _ ?hS212 (fun hH2 => ?_)
        case hS212 => ((try dsimp only); (exact ⟨q1, q2, q3, q4⟩))
        clear hK2 K2
        (try clear hH1)
        (try simp only [Act.put, List.setIfInBounds_toArray, List.set_cons_zero, List.set_cons_succ])
        refine takeY (oi := { dst := some 49, op := Op.binOp BinOp.add 9 (Operand.tmp 45) (Operand.tmp 48) 9, type := 9, pos := "web.go:75", after := #[{ on := 7, ground := Ground.data }, { on := 10, ground := Ground.data }], guard := none }) 11 (some 49) (v := ?v11_213) rfl rfl (by kernel_rfl) (by kernel_rfl) (by kernel_rfl) (fun _ _ _ h => h) (by kernel_rfl) ?hy213 hH2 ?_
        case hy213 => (intro w_ hSw; (try dsimp only at hSw); go_simp; (first | done | with_reducible rfl | rw [if_neg (by omega)]))
        simp only [Act.put, List.setIfInBounds_toArray, List.set_cons_zero, List.set_cons_succ]
        refine takeY (oi := { dst := some 50, op := Op.build 39 #[(0, Operand.tmp 43), (1, Operand.tmp 49)], type := 39, pos := "web.go:75", after := #[{ on := 5, ground := Ground.data }, { on := 11, ground := Ground.data }], guard := none }) 12 (some 50) (v := ?v12_214) rfl rfl (by kernel_rfl) (by kernel_rfl) (by kernel_rfl) (fun _ _ _ h => h) (by kernel_rfl) ?hy214 hH2 ?_
        case hy214 => (intro w_ hSw; (try dsimp only at hSw); go_simp; (first | done | with_reducible rfl | rw [if_neg (by omega)]))
        simp only [Act.put, List.setIfInBounds_toArray, List.set_cons_zero, List.set_cons_succ]
        refine wpAnyH_ready (rs := [13]) (by kernel_rfl) (by simp) ?_
        refine AllReadyH.cons (o := { dst := some 51, op := Op.buildSlice 36 1 #[(0, Operand.tmp 50)], type := 36, pos := "web.go:75", after := #[{ on := 12, ground := Ground.data }], guard := none }) rfl (fun K3 hK3 => ?_) AllReadyH.nil
        go_simp
        refine hK3.out _ _ ?hS215 (fun hH3 => ?_)
        case hS215 => ((try dsimp only); (exact ⟨blk_alloc hH2.1 _, blk_alloc hH2.2.1 _, Kd.R_alloc hH2.2.2.1 _, keepB0 (below_al _ _) hH2.2.2.2⟩))
        clear hK3 K3
        (try clear hH2)
        (try simp only [Act.put, List.setIfInBounds_toArray, List.set_cons_zero, List.set_cons_succ])
        refine wpAnyH_ready (rs := [14]) (by kernel_rfl) (by simp) ?_
        refine AllReadyH.cons (o := { dst := some 52, op := Op.call { callee := Callee.builtin Builtin.append, args := #[Operand.tmp 38, Operand.tmp 51], argTypes := #[36, 36] }, type := 36, pos := "web.go:75", after := #[{ on := 0, ground := Ground.data }, { on := 13, ground := Ground.data }, { on := 10, ground := Ground.chain }], guard := none }) rfl (fun K4 hK4 => ?_) AllReadyH.nil
        obtain ⟨v2, w2, hr2, hR2, hb2, hg2, hat2⟩ := run_app_one (ty := 36) hR9 info_Entry Try.underlying36 (kEntry_mkM _ _ _ (propEntry id s ⟨y0, ⟨y1, y2, y3⟩⟩)) (fun _ _ => trivial) hB9 (by simp; omega) rfl (by decide) (by decide); refine step_app (by kernel_rfl) rfl rfl rfl hr2 ?_
        refine hK4.out _ _ ?hS216 (fun hH4 => ?_)
        case hS216 => ((try dsimp only); (exact ⟨blk_grown q1 hR9 hg2 (by decide), blk_grown q2 hR9 hg2 (by decide), R_beside q3 rfl hR9 hg2 (by decide), q4.trans hb2⟩))
        clear hK4 K4
        (try clear hH3)
        (try simp only [Act.put, List.setIfInBounds_toArray, List.set_cons_zero, List.set_cons_succ])
        refine takeY (oi := { dst := some 3, op := Op.assign (Operand.tmp 52), type := 36, pos := "web.go:75", after := #[{ on := 14, ground := Ground.data }, { on := 14, ground := Ground.chain }, { on := 0, ground := Ground.phase }, { on := 1, ground := Ground.phase }, { on := 2, ground := Ground.phase }, { on := 3, ground := Ground.phase }, { on := 4, ground := Ground.phase }, { on := 5, ground := Ground.phase }, { on := 6, ground := Ground.phase }, { on := 7, ground := Ground.phase }, { on := 8, ground := Ground.phase }, { on := 9, ground := Ground.phase }, { on := 10, ground := Ground.phase }, { on := 11, ground := Ground.phase }, { on := 12, ground := Ground.phase }, { on := 13, ground := Ground.phase }, { on := 14, ground := Ground.phase }], guard := none }) 15 (some 3) (v := ?v15_217) rfl rfl (by kernel_rfl) (by kernel_rfl) (by kernel_rfl) (fun _ _ _ h => h) (by kernel_rfl) ?hy217 hH4 ?_
        case hy217 => (intro w_ hSw; (try dsimp only at hSw); go_simp; (first | done | with_reducible rfl | rw [if_neg (by omega)]))
        simp only [Act.put, List.setIfInBounds_toArray, List.set_cons_zero, List.set_cons_succ]
        refine wpAnyH_done (by kernel_rfl) ?_ _
        have hEnd := hH4
        clear hH4
        have HB5 := Lib.hid hEnd.2.2.2
        have HK5 := Lib.hid hEnd.1
        have HR5 := Lib.hid hR2
        clear hR2 hg2 hb2 hR9 q3
        go_wp2
        go_roundw
        case rel =>
          refine ⟨k + 1, by omega, by go_num, HB5, HK5, Lib.hid ?_⟩
          have e := HR5.out
          rw [HT.out]
          exact e
        case measure => simp [intOf]; omega
      · have hlt2 : ¬ (k : Int) < (l.length : Int) := by omega
        go_wp2
        go_ret
        refine ⟨_, rfl, ?_, HB.out⟩
        rw [HE.out]
        have := HR.out
        rwa [List.take_of_length_le (by omega)] at this
  · have hE : entries id s l = [] := by rw [entries, if_neg hc]
    go_enter Try.func20, Try.ntmps20
    go_wp2_with (
      (go_at_call 46; refine (graph_Check_calls _ _ _ _ 1 l [id] _ hs ?hP HF.out ?hI).mono ?_; (case hP => exact Kd.C_below HX.out (keepB0 (below_al _ _) (below_al w _))); (case hI => exact C_boxg (Kd.int .i64) (by decide) _ _ (by simp) id #[.int .i64 id] _ rfl); rintro e w1 ⟨rfl, hb1⟩; have HB1 := Lib.hid (keepB0 hb1 (keepB0 (below_al _ _) (below_al w _))); clear hb1))
    go_ret
    exact ⟨_, rfl, by rw [hE]; exact Kd.R_nil _ _ _ _ _, HB1.out⟩
end Go.Proofs.Ytonbnlfijmapfaa
/- Lists held against each other: cobwebref03.Same, cobwebref16.SameV. -/
namespace Go.Proofs.Ytonbnlfijmapfaa
open Go.RowKit Go.Shelf Go.Proofs.YtonbnlfijmapfaaW.PrintWords
set_option linter.unusedVariables false
set_option linter.unusedSimpArgs false

theorem take_step {α : Type} (a b : List α) (k : Nat) (z : α) (h1 : k < a.length) (h2 : k < b.length) (h : a.take k = b.take k) (e : a.getD k z = b.getD k z) : a.take (k + 1) = b.take (k + 1) := by
  rw [List.take_succ_eq_append_getElem h1, List.take_succ_eq_append_getElem h2, h]
  simp only [List.getD_eq_getElem?_getD, List.getElem?_eq_getElem h1, List.getElem?_eq_getElem h2, Option.getD_some] at e
  rw [e]
theorem take_unlike {α : Type} {a b : List α} {k : Nat} {z : α} (e : ¬ a.getD k z = b.getD k z) : ¬ a = b := fun h => e (by rw [h])

set_option maxRecDepth 100000 in
set_option maxHeartbeats 2000000 in
theorem ref03_Same_calls (A B : Option Addr) (c d : Nat) (a b : List SPrp) (w : World) (ha : kPrp.C w A a.length a) (hb : kPrp.C w B b.length b) :
    Calls Try.prog 70 #[.slice A a.length c, .slice B b.length d] w fun e w' => e = .returned (.bool (decide (a = b))) ∧ Quiet w w' := by
  have hm := Kd.C_max ha
  have HX := Lib.hid ha; clear ha
  have HY := Lib.hid hb; clear hb
  go_enter Try.func70, Try.ntmps70
  by_cases hl : a.length = b.length
  · have hl2 : ((a.length : Int) = (b.length : Int)) := by omega
    go_wp2
    go_loopw [5] (fun v5 wr => ∃ (k : Nat), k ≤ a.length ∧ v5 = .int .i64 k ∧ Hid (Quiet w wr) ∧ Hid (a.take k = b.take k)) (fun v5 _ => a.length - (intOf v5).toNat)
    case atStart => exact ⟨0, by omega, rfl, Lib.hid (quiet_refl _), Lib.hid rfl⟩
    case round =>
      obtain ⟨k, hk, rfl, HB, HT⟩ := hrel
      by_cases hlt : k < a.length
      · have hlt2 : (k : Int) < (a.length : Int) := by omega
        have hlt3 : (k : Int) < (b.length : Int) := by omega
        obtain ⟨ad, rfl, g0, g1, g2, g3⟩ := at_Prp (Kd.C_below HX.out (quiet_below HB.out _)) (k : Int) (by omega) (by omega)
        obtain ⟨bd, rfl, f0, f1, f2, f3⟩ := at_Prp (Kd.C_below HY.out (quiet_below HB.out _)) (k : Int) (by omega) (by omega)
        simp only [Int.toNat_natCast, rd_Prp] at g0 g1 g2 g3 f0 f1 f2 f3
        by_cases he : a.getD k zPrp = b.getD k zPrp
        · have HS := Lib.hid (take_step a b k zPrp hlt (by omega) HT.out he)
          rw [← he] at f0 f1 f2 f3
          cases hy : a.getD k zPrp with
          | mk y0 yv =>
          cases yv with
          | mk y1 y2 y3 =>
          rw [hy] at g0 g1 g2 g3 f0 f1 f2 f3
          clear hy he
          simp only at g0 g1 g2 g3 f0 f1 f2 f3
          have q := eq_Prp (decide_eq_true (Eq.refl (⟨y0, ⟨y1, y2, y3⟩⟩ : SPrp)))
          go_wp2_with fail
          go_quiet (fail)
          go_wp2
          go_roundw
          case rel => exact ⟨k + 1, by omega, by go_num, Lib.hid (quiet_step HB.out _), HS⟩
          case measure => simp [intOf]; omega
        · have HN := Lib.hid (show decide (a = b) = false from decide_eq_false (take_unlike he))
          cases hy : a.getD k zPrp with
          | mk y0 yv =>
          cases yv with
          | mk y1 y2 y3 =>
          cases hx : b.getD k zPrp with
          | mk x0 xv =>
          cases xv with
          | mk x1 x2 x3 =>
          rw [hx, hy] at he
          rw [hy] at g0 g1 g2 g3 
          rw [hx] at f0 f1 f2 f3
          clear hx hy
          simp only at g0 g1 g2 g3 f0 f1 f2 f3
          have q := eq_Prp (decide_eq_false he)
          go_wp2_with fail
          go_quiet (fail)
          go_wp2
          go_ret
          exact ⟨ret_bool HN.out.symm, quiet_step HB.out _⟩
      · have hlt2 : ¬ (k : Int) < (b.length : Int) := by omega
        go_wp2
        go_ret
        refine ⟨ret_bool (Eq.symm (decide_eq_true ?_)), HB.out⟩
        have := HT.out
        rwa [List.take_of_length_le (by omega), List.take_of_length_le (by omega)] at this
  · have hl2 : ¬ ((a.length : Int) = (b.length : Int)) := by omega
    go_wp2
    go_ret
    exact ⟨ret_bool (Eq.symm (decide_eq_false (fun h => hl (by rw [h])))), quiet_refl _⟩

end Go.Proofs.Ytonbnlfijmapfaa
/- cobwebref10.Ints, Has. No condition. -/
namespace Go.Proofs.Ytonbnlfijmapfaa
open Go.RowKit Go.Shelf Go.Proofs.YtonbnlfijmapfaaW.PrintWords
set_option linter.unusedVariables false
set_option linter.unusedSimpArgs false

set_option maxRecDepth 100000 in
set_option maxHeartbeats 4000000 in
theorem ref10_Ints_calls (A B : Option Addr) (c d : Nat) (a b : List Int) (w : World) (ha : (Kd.int .i64).C w A a.length a) (hb : (Kd.int .i64).C w B b.length b) :
    Calls Try.prog 63 #[.slice A a.length c, .slice B b.length d] w fun e w' => e = .returned (.bool (decide (a = b))) ∧ Quiet w w' := by
  have hm := Kd.C_max ha
  have HX := Lib.hid ha; clear ha
  have HY := Lib.hid hb; clear hb
  go_enter Try.func63, Try.ntmps63
  by_cases hl : a.length = b.length
  · have hl2 : ((a.length : Int) = (b.length : Int)) := by omega
    have HL := Lib.hid hl
    go_wp2
    clear hl2 hl
    go_loopw [5] (fun v5 wr => ∃ (k : Nat), k ≤ a.length ∧ v5 = .int .i64 k ∧ Hid (Quiet w wr) ∧ Hid (a.take k = b.take k)) (fun v5 _ => a.length - (intOf v5).toNat)
    case atStart => exact ⟨0, by omega, rfl, Lib.hid (quiet_refl _), Lib.hid rfl⟩
    case round =>
      obtain ⟨k, hk, rfl, HB, HT⟩ := hrel
      by_cases hlt : k < a.length
      · have hlt2 : (k : Int) < (a.length : Int) := by omega
        have hlt3 : (k : Int) < (b.length : Int) := by have := HL.out; omega
        obtain ⟨ad, rfl, g0⟩ := Kd.at_int (Kd.C_below HX.out (quiet_below HB.out _)) (k : Int) (by omega) (by omega)
        obtain ⟨bd, rfl, f0⟩ := Kd.at_int (Kd.C_below HY.out (quiet_below HB.out _)) (k : Int) (by omega) (by omega)
        simp only [Int.toNat_natCast, rd] at g0 f0
        have HE := Lib.hid (fun e => take_step a b k 0 hlt (by have := HL.out; omega) HT.out e)
        have HN := Lib.hid (fun e => take_unlike (a := a) (b := b) (k := k) (z := 0) e)
        generalize a.getD k 0 = x at g0 HE HN
        generalize b.getD k 0 = y at f0 HE HN
        by_cases h0 : x = y
        · subst h0
          have HE1 := Lib.hid (HE.out rfl)
          clear HE HN
          go_wp2_with fail
          go_big_quiet (fail)
          go_wp2
          go_roundw
          case rel => exact ⟨k + 1, by omega, by go_num, Lib.hid (quiet_step HB.out _), HE1⟩
          case measure => simp [intOf]; omega
        · have h1 : (x != y) = true := by simpa using h0
          go_wp2_with fail
          go_big_quiet (fail)
          go_wp2
          go_ret
          exact ⟨ret_bool (Eq.symm (decide_eq_false (HN.out h0))), quiet_step HB.out _⟩
      · have hlt2 : ¬ (k : Int) < (a.length : Int) := by omega
        have HT2 := HT.out
        go_wp2
        go_ret
        refine ⟨ret_bool (Eq.symm (decide_eq_true ?_)), HB.out⟩
        have hl := HL.out
        rwa [List.take_of_length_le (by omega), List.take_of_length_le (by omega)] at HT2
  · have hl2 : ¬ ((a.length : Int) = (b.length : Int)) := by omega
    go_wp2
    go_ret
    exact ⟨ret_bool (Eq.symm (decide_eq_false (fun e => hl (by rw [e])))), quiet_refl _⟩

set_option maxHeartbeats 2000000 in
theorem ref10_Has_calls (A : Option Addr) (c : Nat) (l : List Int) (n : Int) (w : World) (ha : (Kd.int .i64).C w A l.length l) :
    Calls Try.prog 56 #[.slice A l.length c, .int .i64 n] w fun e w' => e = .returned (.bool (decide (n ∈ l))) ∧ w = w' := by
  have hm := Kd.C_max ha
  have HX := Lib.hid ha; clear ha
  go_enter Try.func56, Try.ntmps56
  go_wp2
  go_loopw [5] (fun v5 wr => ∃ (k : Nat), k ≤ l.length ∧ v5 = .int .i64 k ∧ wr = w ∧ Hid (decide (n ∈ l.drop k) = decide (n ∈ l))) (fun v5 _ => l.length - (intOf v5).toNat)
  case atStart => exact ⟨0, by omega, rfl, rfl, Lib.hid rfl⟩
  case round =>
    obtain ⟨k, hk, rfl, rfl, HT⟩ := hrel
    by_cases hlt : k < l.length
    · have hlt2 : (k : Int) < (l.length : Int) := by omega
      obtain ⟨ad, rfl, g0⟩ := Kd.at_int HX.out (k : Int) (by omega) (by omega)
      simp only [Int.toNat_natCast, rd] at g0
      have HD := Lib.hid (drop_cons l k 0 hlt)
      generalize l.getD k 0 = x at g0 HD
      by_cases h0 : x = n
      · subst h0
        go_wp2
        go_ret
        exact ⟨ret_bool (by rw [← HT.out, HD.out]; simp), rfl⟩
      · have h1 : ¬ n = x := fun e => h0 e.symm
        go_wp2
        go_roundw
        case rel => exact ⟨k + 1, by omega, by go_num, by trivial, Lib.hid (by rw [← HT.out, HD.out]; simp [h1])⟩
        case measure => simp [intOf]; omega
    · have hlt2 : ¬ (k : Int) < (l.length : Int) := by omega
      go_wp2
      go_ret
      exact ⟨ret_bool (by rw [← HT.out, List.drop_eq_nil_of_le (by omega)]; rfl), rfl⟩
end Go.Proofs.Ytonbnlfijmapfaa
/- cobwebref16.SameV. -/
namespace Go.Proofs.Ytonbnlfijmapfaa
open Go.RowKit Go.Shelf Go.Proofs.YtonbnlfijmapfaaW.PrintWords
set_option linter.unusedVariables false
set_option linter.unusedSimpArgs false

set_option maxRecDepth 100000 in
set_option maxHeartbeats 4000000 in
theorem ref16_SameV_calls (A B : Option Addr) (c d : Nat) (a b : List SVert) (w : World) (ha : kVert.C w A a.length a) (hb : kVert.C w B b.length b) :
    Calls Try.prog 18 #[.slice A a.length c, .slice B b.length d] w fun e w' => e = .returned (.bool (decide (a = b))) ∧ Quiet w w' := by
  have hm := Kd.C_max ha
  have HX := Lib.hid ha; clear ha
  have HY := Lib.hid hb; clear hb
  go_enter Try.func18, Try.ntmps18
  by_cases hl : a.length = b.length
  · have hl2 : ((a.length : Int) = (b.length : Int)) := by omega
    go_wp2
    go_loopw [5] (fun v5 wr => ∃ (k : Nat), k ≤ a.length ∧ v5 = .int .i64 k ∧ Hid (Quiet w wr) ∧ Hid (a.take k = b.take k)) (fun v5 _ => a.length - (intOf v5).toNat)
    case atStart => exact ⟨0, by omega, rfl, Lib.hid (quiet_refl _), Lib.hid rfl⟩
    case round =>
      obtain ⟨k, hk, rfl, HB, HT⟩ := hrel
      by_cases hlt : k < a.length
      · have hlt2 : (k : Int) < (a.length : Int) := by omega
        have hlt3 : (k : Int) < (b.length : Int) := by omega
        obtain ⟨ad, A2, c2, rfl, g0, g1, g2, _, hA⟩ := at_Vert (Kd.C_below HX.out (quiet_below HB.out _)) (k : Int) (by omega) (by omega)
        obtain ⟨bd, B2, d2, rfl, f0, f1, f2, _, hB⟩ := at_Vert (Kd.C_below HY.out (quiet_below HB.out _)) (k : Int) (by omega) (by omega)
        simp only [Int.toNat_natCast, rd_Vert] at g0 g1 g2 f0 f1 f2 hA hB
        have HE := Lib.hid (fun e => take_step a b k zVert hlt (by omega) HT.out e)
        have HN := Lib.hid (fun e => take_unlike (a := a) (b := b) (k := k) (z := zVert) e)
        cases hy : a.getD k zVert with
        | mk y0 y1 y2 =>
        cases hx : b.getD k zVert with
        | mk x0 x1 x2 =>
        rw [hy] at g0 g1 g2 hA HE HN
        rw [hx] at f0 f1 f2 hB HE HN
        clear hx hy
        simp only at g0 g1 g2 f0 f1 f2 hA hB
        by_cases h0 : y0 = x0
        · subst h0
          by_cases h1 : y1 = x1
          · subst h1
            have q := fun w2 hb => ref03_Same_calls A2 B2 c2 d2 y2 x2 w2 (Kd.C_below hA hb) (Kd.C_below hB hb)
            have HQ := Lib.hid q; clear q
            cases h2 : decide (y2 = x2) with
            | true =>
              rw [h2] at HQ
              go_wp2_with fail
              go_big_quiet ((go_at_call 70; exact Calls.quiet_of (HQ.out _ (pw_below_drewN (Below.refl _ _) _))))
              go_wp2
              go_roundw
              case rel => exact ⟨k + 1, by omega, by go_num, Lib.hid (quiet_step HB.out _), Lib.hid (HE.out (by rw [of_decide_eq_true h2]))⟩
              case measure => simp [intOf]; omega
            | false =>
              rw [h2] at HQ
              go_wp2_with fail
              go_big_quiet ((go_at_call 70; exact Calls.quiet_of (HQ.out _ (pw_below_drewN (Below.refl _ _) _))))
              go_wp2
              go_ret
              exact ⟨ret_bool (Eq.symm (decide_eq_false (HN.out (by simp [of_decide_eq_false h2])))), quiet_step HB.out _⟩
          · have h1' : (y1.toList == x1.toList) = false := by rw [toList_eq]; exact decide_eq_false h1
            go_wp2_with fail
            go_big_quiet (fail)
            go_wp2
            go_ret
            exact ⟨ret_bool (Eq.symm (decide_eq_false (HN.out (by simp [h1])))), quiet_step HB.out _⟩
        · have h0' : (y0 != x0) = true := by simp [h0]
          go_wp2_with fail
          go_big_quiet (fail)
          go_wp2
          go_ret
          exact ⟨ret_bool (Eq.symm (decide_eq_false (HN.out (by simp [h0])))), quiet_step HB.out _⟩
      · have hlt2 : ¬ (k : Int) < (b.length : Int) := by omega
        go_wp2
        go_ret
        refine ⟨ret_bool (Eq.symm (decide_eq_true ?_)), HB.out⟩
        have := HT.out
        rwa [List.take_of_length_le (by omega), List.take_of_length_le (by omega)] at this
  · have hl2 : ¬ ((a.length : Int) = (b.length : Int)) := by omega
    go_wp2
    go_ret
    exact ⟨ret_bool (Eq.symm (decide_eq_false (fun h => hl (by rw [h])))), quiet_refl _⟩
end Go.Proofs.Ytonbnlfijmapfaa
/- cobweblaw21.props, awake; web.VertexKey. -/
namespace Go.Proofs.Ytonbnlfijmapfaa
open Go.RowKit Go.Shelf Go.Proofs.YtonbnlfijmapfaaW.PrintWords
set_option linter.unusedVariables false
set_option linter.unusedSimpArgs false

/-- Not too many, not too long. -/
def small (p : SPrp) : Bool := decide (p.f0.size ≤ 100) && decide (p.f1.f2.size ≤ 300)
def lawProps (ps : List SPrp) : Bool := decide (ps.length ≤ 30) && ps.all small
theorem small_fits {ps : List SPrp} (h : lawProps ps = true) : fits ps := by
  simp only [lawProps, Bool.and_eq_true, List.all_eq_true, small, decide_eq_true_eq] at h
  intro p hp; have := (h.2 p hp).1; omega

set_option maxHeartbeats 2000000 in
theorem law21_props_calls (A : Option Addr) (c : Nat) (l : List SPrp) (w : World) (h : kPrp.C w A l.length l) :
    Calls Try.prog 16 #[.slice A l.length c] w fun e w' => e = .returned (.bool (lawProps l)) ∧ w = w' := by
  have hm := Kd.C_max h
  have HX := Lib.hid h; clear h
  by_cases h30 : l.length ≤ 30
  · have hz : ¬ (30 : Int) < (l.length : Int) := by omega
    go_enter Try.func16, Try.ntmps16
    go_wp2
    go_loopw [3] (fun v3 wr => ∃ k : Nat, k ≤ l.length ∧ v3 = .int .i64 k ∧ wr = w ∧ Hid ((l.drop k).all small = l.all small)) (fun v3 _ => l.length - (intOf v3).toNat)
    case atStart => exact ⟨0, by omega, rfl, rfl, Lib.hid rfl⟩
    case round =>
      obtain ⟨k, hk, rfl, rfl, HT⟩ := hrel
      by_cases hlt : k < l.length
      · have hlt2 : (k : Int) < (l.length : Int) := by omega
        have HS := Lib.hid (drop_cons l k zPrp hlt)
        obtain ⟨ad, rfl, g0, g1, g2, g3⟩ := at_Prp HX.out (k : Int) (by omega) (by omega)
        simp only [Int.toNat_natCast, rd_Prp] at g0 g1 g2 g3
        cases hy : l.getD k zPrp with
        | mk y0 yv =>
        cases yv with
        | mk y1 y2 y3 =>
        rw [hy] at g0 g1 g2 g3 HS
        clear hy
        simp only at g0 g1 g2 g3
        by_cases h0 : y0.size ≤ 100
        · have e0 : ¬ (100 : Int) < (y0.size : Int) := by omega
          by_cases h1 : y3.size ≤ 300
          · have e1 : ¬ (300 : Int) < (y3.size : Int) := by omega
            go_wp2
            go_roundw
            case rel => exact ⟨k + 1, by omega, by go_num, by trivial, Lib.hid (by rw [← HT.out, HS.out]; simp [small, h0, h1])⟩
            case measure => simp [intOf]; omega
          · have e1 : (300 : Int) < (y3.size : Int) := by omega
            go_wp2
            go_ret
            exact ⟨ret_bool (by rw [lawProps, ← HT.out, HS.out]; simp [small, h1]), rfl⟩
        · have e0 : (100 : Int) < (y0.size : Int) := by omega
          go_wp2
          go_ret
          exact ⟨ret_bool (by rw [lawProps, ← HT.out, HS.out]; simp [small, h0]), rfl⟩
      · have hlt2 : ¬ (k : Int) < (l.length : Int) := by omega
        go_wp2
        go_ret
        refine ⟨ret_bool ?_, rfl⟩
        have := HT.out
        rw [List.drop_eq_nil_of_le (by omega)] at this
        rw [lawProps, ← this, decide_eq_true h30]; rfl
  · have hz : (30 : Int) < (l.length : Int) := by omega
    go_enter Try.func16, Try.ntmps16
    go_wp2
    go_ret
    exact ⟨ret_bool (by rw [lawProps, decide_eq_false h30]; rfl), rfl⟩

set_option maxHeartbeats 1000000 in
theorem web_VertexKey_calls (a : Int) (w : World) :
    Calls Try.prog 27 #[.int .i64 a] w fun e w' => e = .returned (.agg #[.int .i64 1, .int .i64 a, .int .i64 0, .string ⟨#[]⟩]) ∧ Below w.heap.size w w' := by
  go_enter Try.func27, Try.ntmps27
  go_wp2
  refine bodyPost_ret (results_cell_row rfl _ _ w.heap.size 55 _ (0, 0) _ rfl (heap_alloc_new _ _) Try.underlying55 rfl (by kernel_rfl)) rfl ?_
  exact ⟨rfl, below_al _ _⟩
end Go.Proofs.Ytonbnlfijmapfaa
/- cobweblaw16.awake, props. No condition. -/
namespace Go.Proofs.Ytonbnlfijmapfaa
open Go.RowKit Go.Shelf Go.Proofs.YtonbnlfijmapfaaW.PrintWords
set_option linter.unusedVariables false
set_option linter.unusedSimpArgs false

theorem aw16_1 : addV [] ⟨1, ⟨#[97]⟩, []⟩ = ([⟨1, ⟨#[97]⟩, []⟩], 0) := by kernel_rfl
theorem aw16_2 : addV [⟨1, ⟨#[97]⟩, []⟩] ⟨2, ⟨#[97]⟩, []⟩ = ([⟨1, ⟨#[97]⟩, []⟩, ⟨2, ⟨#[97]⟩, []⟩], 0) := by kernel_rfl
theorem aw16_3 : addE [⟨1, ⟨#[97]⟩, []⟩, ⟨2, ⟨#[97]⟩, []⟩] [] ⟨5, ⟨#[120]⟩, 1, 2, []⟩ = ([⟨5, ⟨#[120]⟩, 1, 2, []⟩], 0) := by kernel_rfl
theorem aw16_4 : outIds [⟨5, ⟨#[120]⟩, 1, 2, []⟩] 1 = [5] := by kernel_rfl
theorem aw16_5 : inIds [⟨5, ⟨#[120]⟩, 1, 2, []⟩] 2 = [5] := by kernel_rfl
theorem aw16_6 : inIds [⟨5, ⟨#[120]⟩, 1, 2, []⟩] 1 = [] := by kernel_rfl
theorem aw16_7 : sortU ([5] ++ []) = [5] := strict_ext (sortU_strict _) (by simp) (fun x => by rw [mem_sortU]; simp)
theorem aw16_8 : dropG false 1 [⟨1, ⟨#[97]⟩, []⟩, ⟨2, ⟨#[97]⟩, []⟩] [⟨5, ⟨#[120]⟩, 1, 2, []⟩] = (([⟨2, ⟨#[97]⟩, []⟩], []), ([5], 0)) := by
  unfold dropG
  rw [aw16_4, aw16_6, aw16_7]
  kernel_rfl
theorem aw16_9 : getE [] 5 = ⟨0, ⟨#[]⟩, 0, 0, []⟩ := rfl
theorem aw16_ok : okE [⟨5, ⟨#[120]⟩, 1, 2, []⟩] := fun x hx => by
  simp only [List.mem_singleton] at hx
  subst hx
  kernel_rfl
theorem aw16_10 : (decide (([5] : List Int) = [5])) = true := rfl
theorem fits_nil : fits [] := fun _ h => by simp at h

set_option maxRecDepth 100000 in
set_option maxHeartbeats 4000000 in
theorem law16_awake_calls (w : World) :
    Calls Try.prog 44 #[] w fun e w' => e = .returned (.bool true) ∧ Below w.heap.size w w' := by
  have p1 : True := trivial
  have p2 : True := trivial
  have p1' : True := trivial
  have p2' : True := trivial
  have p3' : True := trivial
  go_enter Try.func44, Try.ntmps44
  go_wp2_with (first
    | (go_at_call 47; refine (graph_New_calls _).mono ?_; rintro e w1 ⟨g, m1, m2, rfl, hG, hb⟩; have HG1 := Lib.hid hG; have HB1 := Lib.hid hb; clear hG hb)
    | (go_at_call 48; clear p1; refine (graph_AddVertex_calls w.heap.size g m1 m2 [] [] 1 ⟨#[97]⟩ none 0 [] _ HG1.out (Kd.C_nil _ _) fits_nil (by decide) (by decide)).mono ?_; rw [aw16_1]; rintro e w2 ⟨rfl, hG, hb⟩; have HG2 := Lib.hid hG; have HB2 := Lib.hid (hb.keep HB1.out (fun k hk => by rw [hk]; exact HG1.out.low.2.1) (Nat.le_refl _)); clear hG hb)
    | (go_at_call 48; clear p2; refine (graph_AddVertex_calls w.heap.size g m1 m2 _ [] 2 ⟨#[97]⟩ none 0 [] _ HG2.out (Kd.C_nil _ _) fits_nil (by decide) (by decide)).mono ?_; rw [aw16_2]; rintro e w3 ⟨rfl, hG, hb⟩; have HG3 := Lib.hid hG; have HB3 := Lib.hid (hb.keep HB2.out (fun k hk => by rw [hk]; exact HG1.out.low.2.1) (Nat.le_refl _)); clear hG hb)
    | (go_at_call 49; refine (graph_AddEdge_calls w.heap.size g m1 m2 _ [] 5 ⟨#[120]⟩ 1 2 none 0 [] _ HG3.out (Kd.C_nil _ _) fits_nil (by decide) (by decide)).mono ?_; rw [aw16_3]; rintro e w4 ⟨rfl, hG, hb⟩; have HG4 := Lib.hid hG; have HB4 := Lib.hid (hb.keep HB3.out (fun k hk => by rw [hk]; exact HG1.out.low.2.2) (Nat.le_refl _)); clear hG hb)
    | (go_at_call 79; refine (graph_Out_calls w.heap.size g m1 m2 _ _ 1 _ HG4.out (by decide)).mono ?_; rw [aw16_4]; rintro e w5 ⟨va, rfl, hR, hb⟩; have HB5 := Lib.hid (show Below w.heap.size w w5 from HB4.out.trans (hb.mono HB4.out.size)); have HG5 := Lib.hid (HG4.out.below hb); obtain ⟨A5, c5, rfl, -, -⟩ := Kd.R_reads hR; have HA5 := Lib.hid (Kd.R_lower hR HB4.out.size); clear hR hb)
    | (go_at_call 80; refine (graph_In_calls w.heap.size g m1 m2 _ _ 2 _ HG5.out (by decide)).mono ?_; rw [aw16_5]; rintro e w6 ⟨vb, rfl, hR, hb⟩; have HB6 := Lib.hid (show Below w.heap.size w w6 from HB5.out.trans (hb.mono HB5.out.size)); have HG6 := Lib.hid (HG5.out.below hb); have HA6 := Lib.hid (Kd.R_below HA5.out hb); obtain ⟨A6, c6, rfl, -, -⟩ := Kd.R_reads hR; have HC6 := Lib.hid (Kd.R_lower hR HB5.out.size); clear hR hb)
    | (go_at_call 81; refine (graph_Drop_calls w.heap.size g m1 m2 _ _ false 1 _ HG6.out (by decide) aw16_ok (by decide)).mono ?_; rw [aw16_8]; rintro e w7 ⟨vc, rfl, hR, hG, hb⟩; have hn7 : ∀ k, (k = m1 ∨ k = m2) → NoCells w6 k := (fun k hk => by rcases hk with rfl | rfl; exact HG6.out.vm.noCells; exact HG6.out.em.noCells); have HB7 := Lib.hid (hb.keep HB6.out (fun k hk => by rcases hk with rfl | rfl; exact HG1.out.low.2.1; exact HG1.out.low.2.2) (Nat.le_refl _)); have HA7 := Lib.hid (hb.row HA6.out hn7); have HC7 := Lib.hid (hb.row HC6.out hn7); have HG7 := Lib.hid hG; obtain ⟨A7, c7, rfl, -, -⟩ := Kd.R_reads hR; have HD7 := Lib.hid (Kd.R_lower hR HB6.out.size); clear hR hG hb hn7)
    | (go_at_call 82; refine (graph_Edge_calls w.heap.size g m1 m2 _ _ 5 _ HG7.out (by decide) (by decide)).mono ?_; rw [aw16_9, show (findK SEdg.f0 [] 5).isSome = false from rfl]; rintro e w8 ⟨v8, rfl, hR, hb⟩; obtain ⟨A8, c8, rfl⟩ := Kd.R_slice hR; have HB8 := Lib.hid (show Below w.heap.size w w8 from HB7.out.trans (hb.mono HB7.out.size)); have HA8 := Lib.hid (Kd.R_reads' (Kd.R_below HA7.out hb)).2.2; have HC8 := Lib.hid (Kd.R_reads' (Kd.R_below HC7.out hb)).2.2; have HD8 := Lib.hid (Kd.R_reads' (Kd.R_below HD7.out hb)).2.2; clear hR hb)
    | (go_at_call 63; clear p1'; refine (ref10_Ints_calls A5 _ c5 1 [5] [5] _ (Kd.C_alloc (Kd.C_alloc HA8.out _) _) ?hb).mono ?_; (case hb => exact C_boxg (Kd.int .i64) (by decide) _ _ (by simp) 5 #[.int .i64 5] _ rfl); rw [aw16_10]; rintro e w9 ⟨rfl, hq⟩; have hb := keepB0 (quiet_below hq _) (keepB0 (below_al _ (.cells #[.int .i64 5] 3)) (below_al w8 (.cells #[.int .i64 0, .string ⟨#[]⟩, .int .i64 0, .int .i64 0, .slice A8 0 c8] 35))); have HB9 := Lib.hid (show Below w.heap.size w w9 from HB8.out.trans (hb.mono HB8.out.size)); have HC9 := Lib.hid (Kd.C_below HC8.out hb); have HD9 := Lib.hid (Kd.C_below HD8.out hb); clear hq hb)
    | (go_at_call 63; clear p2'; refine (ref10_Ints_calls A6 _ c6 1 [5] [5] _ (Kd.C_alloc HC9.out _) ?hb).mono ?_; (case hb => exact C_boxg (Kd.int .i64) (by decide) _ _ (by simp) 5 #[.int .i64 5] _ rfl); rw [aw16_10]; rintro e w10 ⟨rfl, hq⟩; have hb := keepB0 (quiet_below hq _) (below_al w9 (.cells #[.int .i64 5] 3)); have HB10 := Lib.hid (show Below w.heap.size w w10 from HB9.out.trans (hb.mono HB9.out.size)); have HD10 := Lib.hid (Kd.C_below HD9.out hb); clear hq hb)
    | (go_at_call 63; clear p3'; refine (ref10_Ints_calls A7 _ c7 1 [5] [5] _ (Kd.C_alloc HD10.out _) ?hb).mono ?_; (case hb => exact C_boxg (Kd.int .i64) (by decide) _ _ (by simp) 5 #[.int .i64 5] _ rfl); rw [aw16_10]; rintro e w11 ⟨rfl, hq⟩; have hb := keepB0 (quiet_below hq _) (below_al w10 (.cells #[.int .i64 5] 3)); have HB11 := Lib.hid (show Below w.heap.size w w11 from HB10.out.trans (hb.mono HB10.out.size)); clear hq hb))
  go_ret
  exact ⟨rfl, HB11.out⟩
end Go.Proofs.Ytonbnlfijmapfaa
/- cobwebref01.Compare. -/
namespace Go.Proofs.Ytonbnlfijmapfaa
open Go.RowKit Go.Shelf Go.Proofs.YtonbnlfijmapfaaW.PrintWords
set_option linter.unusedVariables false
set_option linter.unusedSimpArgs false

set_option maxRecDepth 100000 in
set_option maxHeartbeats 4000000 in
theorem ref01_Compare_calls (a b : ByteArray) (w : World) (ha : a.size ≤ 100000) (hb : b.size ≤ 100000) :
    Calls Try.prog 106 #[.string a, .string b] w fun e w' => e = .returned (.int .i64 (cmpS a b)) ∧ Below w.heap.size w w' := by
  have p1 : True := trivial
  go_enter Try.func106, Try.ntmps106
  go_wp2_with (first
    | (go_at_call 102; clear p1; refine (ref01_Runes_calls a _ ha).mono ?_; rintro e w1 ⟨⟨v1, rfl, hR1⟩, hb1⟩; have HR1 := Lib.hid hR1; have HB := Lib.hid hb1; clear hR1 hb1)
    | (go_at_call 102; refine (ref01_Runes_calls b _ hb).mono ?_; rintro e w2 ⟨⟨v2, rfl, hR2⟩, hb2⟩; have HR2 := Lib.hid hR2; replace HR1 := Lib.hid (Kd.R_below HR1.out hb2); replace HB := Lib.hid (keepB0 hb2 HB.out); clear hR2 hb2))
  obtain ⟨A1, c1, rfl, -, hC1⟩ := Kd.R_reads HR1.out
  obtain ⟨A2, c2, rfl, -, hC2⟩ := Kd.R_reads HR2.out
  have HC1 := Lib.hid hC1
  have HC2 := Lib.hid hC2
  clear hC1 hC2 HR1 HR2
  have hm1 := Kd.C_max HC1.out
  have hm2 := Kd.C_max HC2.out
  have HG : Hid (cmpS a b = cmpL (runes a) (runes b)) := Lib.hid rfl
  generalize runes a = xs at HC1 HG hm1
  generalize runes b = ys at HC2 HG hm2
  go_loopw [7] (fun v7 wr => ∃ k : Nat, k ≤ xs.length ∧ k ≤ ys.length ∧ v7 = .int .i64 k ∧ Hid (Quiet w2 wr) ∧ Hid (cmpL (xs.drop k) (ys.drop k) = cmpL xs ys)) (fun v7 _ => xs.length - (intOf v7).toNat)
  case atStart => exact ⟨0, Nat.zero_le _, Nat.zero_le _, rfl, Lib.hid (quiet_refl _), Lib.hid rfl⟩
  case round =>
    obtain ⟨k, hk, hk2, rfl, HQ, HI⟩ := hrel
    by_cases hlt : k < xs.length
    · have hlt1 : (k : Int) < (xs.length : Int) := by omega
      obtain ⟨ad, rfl, g0⟩ := Kd.at_int (Kd.C_below HC1.out (quiet_below HQ.out _)) (k : Int) (by omega) (by omega)
      simp only [Int.toNat_natCast] at g0
      by_cases hlt2 : k < ys.length
      · have hlt3 : (k : Int) < (ys.length : Int) := by omega
        obtain ⟨bd, rfl, g1⟩ := Kd.at_int (Kd.C_below HC2.out (quiet_below HQ.out _)) (k : Int) (by omega) (by omega)
        simp only [Int.toNat_natCast] at g1
        have HS := Lib.hid (cmpL_step hlt hlt2)
        generalize rd xs (k : Int) = x at *
        generalize rd ys (k : Int) = y at *
        rcases Int.lt_trichotomy x y with h | h | h
        · have hc : cmpI x y = -1 := by simp [cmpI, h]
          have hd : decide (x < y) = true := decide_eq_true h
          have HH := Lib.hid h; clear h
          go_wp2_with fail
          go_big_quiet (fail)
          go_wp2
          go_ret
          exact ⟨ret_int (by rw [HG.out, ← HI.out, HS.out, hc]; rfl), keepB0 (quiet_below (quiet_step HQ.out _) _) HB.out⟩
        · have hc : cmpI x y = 0 := by simp [cmpI, h]
          subst h
          have HH := Lib.hid hc; clear hc
          go_wp2_with fail
          go_big_quiet (fail)
          go_wp2_with fail
          go_big_quiet (fail)
          go_wp2
          go_roundw
          case rel => exact ⟨k + 1, by omega, by omega, by go_num, Lib.hid (by first | exact quiet_step HQ.out _ | exact quiet_step (quiet_step HQ.out _) _), Lib.hid (by rw [← HI.out, HS.out, HH.out]; rfl)⟩
          case measure => simp [intOf]; omega
        · have hc : cmpI x y = 1 := by have : ¬ x < y := by omega
                                       simp [cmpI, h, this]
          have hd : decide (x < y) = false := decide_eq_false (by omega)
          have hd2 : decide (y < x) = true := decide_eq_true h
          have HH := Lib.hid h; clear h
          go_wp2_with fail
          go_big_quiet (fail)
          go_wp2_with fail
          go_big_quiet (fail)
          go_wp2
          go_ret
          exact ⟨ret_int (by rw [HG.out, ← HI.out, HS.out, hc]; rfl), keepB0 (by first | exact quiet_below (quiet_step HQ.out _) _ | exact quiet_below (quiet_step (quiet_step HQ.out _) _) _) HB.out⟩
      · have hlt3 : ¬ (k : Int) < (ys.length : Int) := by omega
        have HE := Lib.hid (cmpL_end hk hk2 (by omega))
        have h1 : ¬ ((xs.length : Int) < (ys.length : Int)) := by omega
        have h2 : ((ys.length : Int) < (xs.length : Int)) := by omega
        go_wp2
        go_ret
        exact ⟨ret_int (by rw [HG.out, ← HI.out, HE.out]; unfold cmpI; rw [if_neg (by omega), if_pos (by omega)]), keepB0 (quiet_below HQ.out _) HB.out⟩
    · have hlt1 : ¬ (k : Int) < (xs.length : Int) := by omega
      have HE := Lib.hid (cmpL_end hk hk2 (by omega))
      by_cases hlt2 : xs.length < ys.length
      · have h1 : ((xs.length : Int) < (ys.length : Int)) := by omega
        go_wp2
        go_ret
        exact ⟨ret_int (by rw [HG.out, ← HI.out, HE.out]; unfold cmpI; rw [if_pos (by omega)]), keepB0 (quiet_below HQ.out _) HB.out⟩
      · have h1 : ¬ ((xs.length : Int) < (ys.length : Int)) := by omega
        have h2 : ¬ ((ys.length : Int) < (xs.length : Int)) := by omega
        go_wp2
        go_ret
        exact ⟨ret_int (by rw [HG.out, ← HI.out, HE.out]; unfold cmpI; rw [if_neg (by omega), if_neg (by omega)]), keepB0 (quiet_below HQ.out _) HB.out⟩
end Go.Proofs.Ytonbnlfijmapfaa
/- cobwebref03.Right, cobwebref16.Check. -/
namespace Go.Proofs.Ytonbnlfijmapfaa
open Go.RowKit Go.Shelf Go.Proofs.YtonbnlfijmapfaaW.PrintWords
set_option linter.unusedVariables false
set_option linter.unusedSimpArgs false

set_option maxRecDepth 100000 in
set_option maxHeartbeats 4000000 in
theorem ref03_Right_calls (A : Option Addr) (c : Nat) (l : List SPrp) (w : World) (h : kPrp.C w A l.length l) (hf : fits l) :
    Calls Try.prog 75 #[.slice A l.length c] w fun e w' => e = .returned (.bool (propsRight l)) ∧ Below w.heap.size w w' := by
  have hm := Kd.C_max h
  have HX := Lib.hid h; clear h
  have HF := Lib.hid hf; clear hf
  by_cases h16 : l.length ≤ 16
  · have h16' : ¬ (16 : Int) < (l.length : Int) := by omega
    go_enter Try.func75, Try.ntmps75
    go_wp2
    go_loopw [3] (fun s3 wr => ∃ k : Nat, k ≤ l.length ∧ s3 = .int .i64 k ∧ Hid (Below w.heap.size w wr) ∧ Hid (propsFrom (prevAt l k) (l.drop k) = propsFrom none l)) (fun s3 _ => l.length - (intOf s3).toNat)
    case atStart => exact ⟨0, Nat.zero_le _, rfl, Lib.hid (Below.refl _ w), Lib.hid rfl⟩
    case round =>
      obtain ⟨k, hk, rfl, HB, HI⟩ := hrel
      by_cases hlt : k < l.length
      · have hlt2 : (k : Int) < (l.length : Int) := by omega
        have HS := Lib.hid (propsFrom_at l k hlt)
        have hmem : l.getD k zPrp ∈ l := by simp [List.getD_eq_getElem?_getD, List.getElem?_eq_getElem hlt]
        have hs := HF.out _ hmem
        obtain ⟨ad, rfl, g0, g1, g2, g3⟩ := at_Prp (Kd.C_below HX.out HB.out) (k : Int) (by omega) (by omega)
        simp only [Int.toNat_natCast, rd_Prp] at g0 g1 g2 g3
        obtain ⟨⟨y0, ⟨y1, y2, y3⟩⟩, hy⟩ : ∃ q, l.getD k zPrp = q := ⟨_, rfl⟩
        rw [hy] at g0 g1 g2 g3 HS hs
        clear hy hmem
        simp only at g0 g1 g2 g3 hs HS
        cases hN : nameRight y0 with
        | false =>
          have HE := Lib.hid (propsRight_no (by rw [← HI.out, HS.out, hN]; rfl))
          go_wp2_with (go_at_call 67; refine (ref01_Right_calls y0 _ (by omega)).mono ?_; rw [hN]; rintro e w2 ⟨rfl, hb2⟩; replace HB := Lib.hid (keepB0 hb2 HB.out); replace g0 := pw_cell_below hb2 g0; replace g1 := pw_cell_below hb2 g1; replace g2 := pw_cell_below hb2 g2; replace g3 := pw_cell_below hb2 g3; (try replace f0 := pw_cell_below hb2 f0); clear hb2)
          go_ret
          exact ⟨ret_bool HE.out.symm, HB.out⟩
        | true =>
        cases hV : valOk y1 y2 y3 with
        | false =>
          have HE := Lib.hid (propsRight_no (by rw [← HI.out, HS.out, hN, show SValue.ok ⟨y1, y2, y3⟩ = false from hV]; rfl))
          go_wp2_with (first
            | (go_at_call 67; refine (ref01_Right_calls y0 _ (by omega)).mono ?_; rw [hN]; rintro e w2 ⟨rfl, hb2⟩; replace HB := Lib.hid (keepB0 hb2 HB.out); replace g0 := pw_cell_below hb2 g0; replace g1 := pw_cell_below hb2 g1; replace g2 := pw_cell_below hb2 g2; replace g3 := pw_cell_below hb2 g3; (try replace f0 := pw_cell_below hb2 f0); clear hb2)
            | (go_at_call 22; refine (ref02_Right_calls y1 y2 y3 _).mono ?_; rw [hV]; rintro e w3 ⟨rfl, hb2⟩; replace HB := Lib.hid (keepB0 hb2 HB.out); replace g0 := pw_cell_below hb2 g0; (try replace f0 := pw_cell_below hb2 f0); clear hb2))
          go_ret
          exact ⟨ret_bool HE.out.symm, HB.out⟩
        | true =>
        have hV' : SValue.ok ⟨y1, y2, y3⟩ = true := hV
        cases k with
        | zero =>
          have HE := Lib.hid (HS.out.symm.trans HI.out)
          rw [hN, hV'] at HE
          simp only [Nat.zero_mul, add_zero_] at g0 g1 g2 g3
          go_wp2_with (first
            | (go_at_call 67; refine (ref01_Right_calls y0 _ (by omega)).mono ?_; rw [hN]; rintro e w2 ⟨rfl, hb2⟩; replace HB := Lib.hid (keepB0 hb2 HB.out); replace g0 := pw_cell_below hb2 g0; replace g1 := pw_cell_below hb2 g1; replace g2 := pw_cell_below hb2 g2; replace g3 := pw_cell_below hb2 g3; (try replace f0 := pw_cell_below hb2 f0); clear hb2)
            | (go_at_call 22; refine (ref02_Right_calls y1 y2 y3 _).mono ?_; rw [hV]; rintro e w3 ⟨rfl, hb2⟩; replace HB := Lib.hid (keepB0 hb2 HB.out); replace g0 := pw_cell_below hb2 g0; (try replace f0 := pw_cell_below hb2 f0); clear hb2))
          go_big_quiet (fail)
          go_wp2
          go_roundw
          case rel => exact ⟨1, by omega, by go_num, Lib.hid (pw_below_drewN HB.out _), Lib.hid (by rw [← HE.out]; simp [prevAt])⟩
          case measure => simp [intOf]; omega
        | succ m =>
          obtain ⟨ad', e, f0, -, -, -⟩ := at_Prp (Kd.C_below HX.out HB.out) (m : Int) (by omega) (by omega)
          cases e
          simp only [Int.toNat_natCast, rd_Prp] at f0
          have hmem2 := HF.out (l.getD m zPrp) (by simp [List.getD_eq_getElem?_getD, List.getElem?_eq_getElem (show m < l.length by omega)])
          have HP : Hid (prevAt l (m + 1) = some (l.getD m zPrp).f0) := Lib.hid (by simp [prevAt])
          generalize (l.getD m zPrp).f0 = x0 at f0 HP hmem2
          have hwr : IntKind.i64.wrap (m : Int) = (m : Int) := IntWalk.i64_in _ (by omega)
          have hm1 : (0 : Int) ≤ (m : Int) := by omega
          have hm2 : (m : Int) < (l.length : Int) := by omega
          have hm3 : (m : Int) + 1 < (l.length : Int) := by omega
          have hm5 : (0 : Int) ≤ (m : Int) + 1 := by omega
          have hm6 : ¬ ((m : Int) + 1 < 0) := by omega
          have hm7 : ¬ ((l.length : Int) ≤ (m : Int) + 1) := by omega
          cases hO : decide (0 ≤ cmpS x0 y0) with
          | true =>
            have HE := Lib.hid (propsRight_no (by rw [← HI.out, HS.out, hN, hV', HP.out]; have := of_decide_eq_true hO; simp [Int.not_lt.2 this]))
            go_wp2_with (first
              | (go_at_call 67; refine (ref01_Right_calls y0 _ (by omega)).mono ?_; rw [hN]; rintro e w2 ⟨rfl, hb2⟩; replace HB := Lib.hid (keepB0 hb2 HB.out); replace g0 := pw_cell_below hb2 g0; replace g1 := pw_cell_below hb2 g1; replace g2 := pw_cell_below hb2 g2; replace g3 := pw_cell_below hb2 g3; (try replace f0 := pw_cell_below hb2 f0); clear hb2)
              | (go_at_call 22; refine (ref02_Right_calls y1 y2 y3 _).mono ?_; rw [hV]; rintro e w3 ⟨rfl, hb2⟩; replace HB := Lib.hid (keepB0 hb2 HB.out); replace g0 := pw_cell_below hb2 g0; (try replace f0 := pw_cell_below hb2 f0); clear hb2))
            refine wp_region_held_drew (S := (fun w' => w'.cell? (ad.add (m * 4)) = some (.string x0) ∧ w'.cell? (ad.add ((m + 1) * 4)) = some (.string y0) ∧ Below w.heap.size w w')) (by kernel_rfl) ?hS101 (fun hH0 => ?_)
            case hS101 => exact ⟨pw_cell_below (below_drew (Below.refl _ _)) f0, pw_cell_below (below_drew (Below.refl _ _)) g0, below_drew HB.out⟩
            refine takeY (oi := { dst := some 29, op := Op.move (Operand.tmp 3), type := 3, pos := "ref.go:19", after := #[], guard := none }) 0 (some 29) (v := ?v0_102) rfl rfl (by kernel_rfl) (by kernel_rfl) (by kernel_rfl) (fun _ _ _ h => h) (by kernel_rfl) ?hy102 hH0 ?_
            case hy102 => (intro w_ hSw; (try dsimp only at hSw); (obtain ⟨c0, c1, -⟩ := hSw; go_simp; (first | done | with_reducible rfl | rw [if_neg (by omega)])))
            simp only [Act.put, List.setIfInBounds_toArray, List.set_cons_zero, List.set_cons_succ]
            refine takeY (oi := { dst := some 30, op := Op.binOp BinOp.gtr 3 (Operand.tmp 29) (Operand.const (Value.int IntKind.i64 0)) 3, type := 4, pos := "ref.go:19", after := #[{ on := 0, ground := Ground.data }], guard := none }) 1 (some 30) (v := ?v1_103) rfl rfl (by kernel_rfl) (by kernel_rfl) (by kernel_rfl) (fun _ _ _ h => h) (by kernel_rfl) ?hy103 hH0 ?_
            case hy103 => (intro w_ hSw; (try dsimp only at hSw); (obtain ⟨c0, c1, -⟩ := hSw; go_simp; (first | done | with_reducible rfl | rw [if_neg (by omega)])))
            simp only [Act.put, List.setIfInBounds_toArray, List.set_cons_zero, List.set_cons_succ]
            refine takeY (oi := { dst := some 31, op := Op.move (Operand.tmp 30), type := 4, pos := "ref.go:19", after := #[{ on := 1, ground := Ground.data }], guard := none }) 2 (some 31) (v := ?v2_104) rfl rfl (by kernel_rfl) (by kernel_rfl) (by kernel_rfl) (fun _ _ _ h => h) (by kernel_rfl) ?hy104 hH0 ?_
            case hy104 => (intro w_ hSw; (try dsimp only at hSw); (obtain ⟨c0, c1, -⟩ := hSw; go_simp; (first | done | with_reducible rfl | rw [if_neg (by omega)])))
            simp only [Act.put, List.setIfInBounds_toArray, List.set_cons_zero, List.set_cons_succ]
            refine takeY (oi := { dst := some 32, op := Op.move (Operand.tmp 0), type := 22, pos := "ref.go:19", after := #[{ on := 2, ground := Ground.guard }], guard := some (2, true) }) 3 (some 32) (v := ?v3_105) rfl rfl (by kernel_rfl) (by kernel_rfl) (by kernel_rfl) (fun _ _ _ h => h) (by kernel_rfl) ?hy105 hH0 ?_
            case hy105 => (intro w_ hSw; (try dsimp only at hSw); (obtain ⟨c0, c1, -⟩ := hSw; go_simp; (first | done | with_reducible rfl | rw [if_neg (by omega)])))
            simp only [Act.put, List.setIfInBounds_toArray, List.set_cons_zero, List.set_cons_succ]
            refine takeY (oi := { dst := some 33, op := Op.move (Operand.tmp 3), type := 3, pos := "ref.go:19", after := #[{ on := 2, ground := Ground.guard }], guard := some (2, true) }) 4 (some 33) (v := ?v4_106) rfl rfl (by kernel_rfl) (by kernel_rfl) (by kernel_rfl) (fun _ _ _ h => h) (by kernel_rfl) ?hy106 hH0 ?_
            case hy106 => (intro w_ hSw; (try dsimp only at hSw); (obtain ⟨c0, c1, -⟩ := hSw; go_simp; (first | done | with_reducible rfl | rw [if_neg (by omega)])))
            simp only [Act.put, List.setIfInBounds_toArray, List.set_cons_zero, List.set_cons_succ]
            refine takeY (oi := { dst := some 34, op := Op.binOp BinOp.sub 3 (Operand.tmp 33) (Operand.const (Value.int IntKind.i64 1)) 3, type := 3, pos := "ref.go:19", after := #[{ on := 4, ground := Ground.data }, { on := 2, ground := Ground.guard }], guard := some (2, true) }) 5 (some 34) (v := ?v5_107) rfl rfl (by kernel_rfl) (by kernel_rfl) (by kernel_rfl) (fun _ _ _ h => h) (by kernel_rfl) ?hy107 hH0 ?_
            case hy107 => (intro w_ hSw; (try dsimp only at hSw); (obtain ⟨c0, c1, -⟩ := hSw; go_simp; (first | done | with_reducible rfl | rw [if_neg (by omega)])))
            simp only [Act.put, List.setIfInBounds_toArray, List.set_cons_zero, List.set_cons_succ]
            refine takeY (oi := { dst := some 35, op := Op.indexAddr 22 (Operand.tmp 32) (Operand.tmp 34), type := 0, pos := "ref.go:19", after := #[{ on := 3, ground := Ground.data }, { on := 5, ground := Ground.data }, { on := 2, ground := Ground.guard }], guard := some (2, true) }) 6 (some 35) (v := ?v6_108) rfl rfl (by kernel_rfl) (by kernel_rfl) (by kernel_rfl) (fun _ _ _ h => h) (by kernel_rfl) ?hy108 hH0 ?_
            case hy108 => (intro w_ hSw; (try dsimp only at hSw); (obtain ⟨c0, c1, -⟩ := hSw; go_simp; (first | done | with_reducible rfl | rw [if_neg (by omega)])))
            simp only [Act.put, List.setIfInBounds_toArray, List.set_cons_zero, List.set_cons_succ]
            refine takeY (oi := { dst := some 36, op := Op.fieldAddr 117 (Operand.tmp 35) 0, type := 0, pos := "ref.go:19", after := #[{ on := 6, ground := Ground.data }, { on := 2, ground := Ground.guard }], guard := some (2, true) }) 7 (some 36) (v := ?v7_109) rfl rfl (by kernel_rfl) (by kernel_rfl) (by kernel_rfl) (fun _ _ _ h => h) (by kernel_rfl) ?hy109 hH0 ?_
            case hy109 => (intro w_ hSw; (try dsimp only at hSw); (obtain ⟨c0, c1, -⟩ := hSw; go_simp; (first | done | with_reducible rfl | rw [if_neg (by omega)])))
            simp only [Act.put, List.setIfInBounds_toArray, List.set_cons_zero, List.set_cons_succ]
            refine takeY (oi := { dst := some 37, op := Op.load 9 (Operand.tmp 36), type := 9, pos := "ref.go:19", after := #[{ on := 7, ground := Ground.data }, { on := 2, ground := Ground.guard }], guard := some (2, true) }) 8 (some 37) (v := ?v8_110) rfl rfl (by kernel_rfl) (by kernel_rfl) (by kernel_rfl) (fun _ _ _ h => h) (by kernel_rfl) ?hy110 hH0 ?_
            case hy110 => (intro w_ hSw; (try dsimp only at hSw); (obtain ⟨c0, c1, -⟩ := hSw; go_simp; (first | done | with_reducible rfl | rw [if_neg (by omega)])))
            simp only [Act.put, List.setIfInBounds_toArray, List.set_cons_zero, List.set_cons_succ]
            refine takeY (oi := { dst := some 38, op := Op.move (Operand.tmp 0), type := 22, pos := "ref.go:19", after := #[{ on := 2, ground := Ground.guard }], guard := some (2, true) }) 9 (some 38) (v := ?v9_111) rfl rfl (by kernel_rfl) (by kernel_rfl) (by kernel_rfl) (fun _ _ _ h => h) (by kernel_rfl) ?hy111 hH0 ?_
            case hy111 => (intro w_ hSw; (try dsimp only at hSw); (obtain ⟨c0, c1, -⟩ := hSw; go_simp; (first | done | with_reducible rfl | rw [if_neg (by omega)])))
            simp only [Act.put, List.setIfInBounds_toArray, List.set_cons_zero, List.set_cons_succ]
            refine takeY (oi := { dst := some 39, op := Op.move (Operand.tmp 3), type := 3, pos := "ref.go:19", after := #[{ on := 2, ground := Ground.guard }], guard := some (2, true) }) 10 (some 39) (v := ?v10_112) rfl rfl (by kernel_rfl) (by kernel_rfl) (by kernel_rfl) (fun _ _ _ h => h) (by kernel_rfl) ?hy112 hH0 ?_
            case hy112 => (intro w_ hSw; (try dsimp only at hSw); (obtain ⟨c0, c1, -⟩ := hSw; go_simp; (first | done | with_reducible rfl | rw [if_neg (by omega)])))
            simp only [Act.put, List.setIfInBounds_toArray, List.set_cons_zero, List.set_cons_succ]
            refine takeY (oi := { dst := some 40, op := Op.indexAddr 22 (Operand.tmp 38) (Operand.tmp 39), type := 0, pos := "ref.go:19", after := #[{ on := 9, ground := Ground.data }, { on := 10, ground := Ground.data }, { on := 2, ground := Ground.guard }], guard := some (2, true) }) 11 (some 40) (v := ?v11_113) rfl rfl (by kernel_rfl) (by kernel_rfl) (by kernel_rfl) (fun _ _ _ h => h) (by kernel_rfl) ?hy113 hH0 ?_
            case hy113 => (intro w_ hSw; (try dsimp only at hSw); (obtain ⟨c0, c1, -⟩ := hSw; go_simp; (first | done | with_reducible rfl | rw [if_neg (by omega)])))
            simp only [Act.put, List.setIfInBounds_toArray, List.set_cons_zero, List.set_cons_succ]
            refine takeY (oi := { dst := some 41, op := Op.fieldAddr 117 (Operand.tmp 40) 0, type := 0, pos := "ref.go:19", after := #[{ on := 11, ground := Ground.data }, { on := 2, ground := Ground.guard }], guard := some (2, true) }) 12 (some 41) (v := ?v12_114) rfl rfl (by kernel_rfl) (by kernel_rfl) (by kernel_rfl) (fun _ _ _ h => h) (by kernel_rfl) ?hy114 hH0 ?_
            case hy114 => (intro w_ hSw; (try dsimp only at hSw); (obtain ⟨c0, c1, -⟩ := hSw; go_simp; (first | done | with_reducible rfl | rw [if_neg (by omega)])))
            simp only [Act.put, List.setIfInBounds_toArray, List.set_cons_zero, List.set_cons_succ]
            refine takeY (oi := { dst := some 42, op := Op.load 9 (Operand.tmp 41), type := 9, pos := "ref.go:19", after := #[{ on := 12, ground := Ground.data }, { on := 2, ground := Ground.guard }], guard := some (2, true) }) 13 (some 42) (v := ?v13_115) rfl rfl (by kernel_rfl) (by kernel_rfl) (by kernel_rfl) (fun _ _ _ h => h) (by kernel_rfl) ?hy115 hH0 ?_
            case hy115 => (intro w_ hSw; (try dsimp only at hSw); (obtain ⟨c0, c1, -⟩ := hSw; go_simp; (first | done | with_reducible rfl | rw [if_neg (by omega)])))
            simp only [Act.put, List.setIfInBounds_toArray, List.set_cons_zero, List.set_cons_succ]
            refine wpAnyH_ready (rs := [14]) (by kernel_rfl) (by simp) ?_
            refine AllReadyH.cons (o := { dst := some 43, op := Op.call { callee := Callee.value (Operand.func 106), args := #[Operand.tmp 37, Operand.tmp 42], argTypes := #[9, 9] }, type := 3, pos := "ref.go:19", after := #[{ on := 8, ground := Ground.data }, { on := 13, ground := Ground.data }, { on := 2, ground := Ground.chain }, { on := 2, ground := Ground.guard }], guard := some (2, true) }) rfl (fun K1 hK1 => ?_) AllReadyH.nil
            go_simp; refine (ref01_Compare_calls x0 y0 _ (by omega) (by omega)).mono ?_; rintro e w4 ⟨rfl, hb4⟩
            refine hK1.out _ _ ?hS116 (fun hH1 => ?_)
            case hS116 => ((try dsimp only); (exact ⟨pw_cell_below hb4 hH0.1, pw_cell_below hb4 hH0.2.1, keepB0 hb4 hH0.2.2⟩))
            clear hK1 K1
            (try clear hH0)
            (try simp only [Act.put, List.setIfInBounds_toArray, List.set_cons_zero, List.set_cons_succ])
            refine takeY (oi := { dst := some 44, op := Op.binOp BinOp.geq 3 (Operand.tmp 43) (Operand.const (Value.int IntKind.i64 0)) 3, type := 4, pos := "ref.go:19", after := #[{ on := 14, ground := Ground.data }, { on := 2, ground := Ground.guard }], guard := some (2, true) }) 15 (some 44) (v := ?v15_117) rfl rfl (by kernel_rfl) (by kernel_rfl) (by kernel_rfl) (fun _ _ _ h => h) (by kernel_rfl) ?hy117 hH1 ?_
            case hy117 => (intro w_ hSw; (try dsimp only at hSw); (obtain ⟨c0, c1, -⟩ := hSw; go_simp; (first | done | with_reducible rfl | rw [if_neg (by omega)])))
            simp only [Act.put, List.setIfInBounds_toArray, List.set_cons_zero, List.set_cons_succ]
            refine takeY (oi := { dst := some 45, op := Op.pick (Operand.tmp 31) (Operand.tmp 44) (Operand.const (Value.bool false)), type := 4, pos := "ref.go:19", after := #[{ on := 2, ground := Ground.data }, { on := 15, ground := Ground.data }], guard := none }) 16 (some 45) (v := ?v16_118) rfl rfl (by kernel_rfl) (by kernel_rfl) (by kernel_rfl) (fun _ _ _ h => h) (by kernel_rfl) ?hy118 hH1 ?_
            case hy118 => (intro w_ hSw; (try dsimp only at hSw); (obtain ⟨c0, c1, -⟩ := hSw; go_simp; (first | done | with_reducible rfl | rw [if_neg (by omega)])))
            simp only [Act.put, List.setIfInBounds_toArray, List.set_cons_zero, List.set_cons_succ]
            refine wpAnyH_done (by kernel_rfl) ?_ _
            have hEnd := hH1
            clear hH1
            have HB2 := Lib.hid hEnd.2.2
            go_wp2
            go_ret
            exact ⟨ret_bool HE.out.symm, HB2.out⟩
          | false =>
            have HS2 := Lib.hid (show propsFrom (prevAt l (m + 1)) (l.drop (m + 1)) = propsFrom (prevAt l (m + 1 + 1)) (l.drop (m + 1 + 1)) by rw [HS.out, hN, hV', HP.out]; have := of_decide_eq_false hO; simp; omega)
            go_wp2_with (first
              | (go_at_call 67; refine (ref01_Right_calls y0 _ (by omega)).mono ?_; rw [hN]; rintro e w2 ⟨rfl, hb2⟩; replace HB := Lib.hid (keepB0 hb2 HB.out); replace g0 := pw_cell_below hb2 g0; replace g1 := pw_cell_below hb2 g1; replace g2 := pw_cell_below hb2 g2; replace g3 := pw_cell_below hb2 g3; (try replace f0 := pw_cell_below hb2 f0); clear hb2)
              | (go_at_call 22; refine (ref02_Right_calls y1 y2 y3 _).mono ?_; rw [hV]; rintro e w3 ⟨rfl, hb2⟩; replace HB := Lib.hid (keepB0 hb2 HB.out); replace g0 := pw_cell_below hb2 g0; (try replace f0 := pw_cell_below hb2 f0); clear hb2))
            refine wp_region_held_drew (S := (fun w' => w'.cell? (ad.add (m * 4)) = some (.string x0) ∧ w'.cell? (ad.add ((m + 1) * 4)) = some (.string y0) ∧ Below w.heap.size w w')) (by kernel_rfl) ?hS201 (fun hH0 => ?_)
            case hS201 => exact ⟨pw_cell_below (below_drew (Below.refl _ _)) f0, pw_cell_below (below_drew (Below.refl _ _)) g0, below_drew HB.out⟩
            refine takeY (oi := { dst := some 29, op := Op.move (Operand.tmp 3), type := 3, pos := "ref.go:19", after := #[], guard := none }) 0 (some 29) (v := ?v0_202) rfl rfl (by kernel_rfl) (by kernel_rfl) (by kernel_rfl) (fun _ _ _ h => h) (by kernel_rfl) ?hy202 hH0 ?_
            case hy202 => (intro w_ hSw; (try dsimp only at hSw); (obtain ⟨c0, c1, -⟩ := hSw; go_simp; (first | done | with_reducible rfl | rw [if_neg (by omega)])))
            simp only [Act.put, List.setIfInBounds_toArray, List.set_cons_zero, List.set_cons_succ]
            refine takeY (oi := { dst := some 30, op := Op.binOp BinOp.gtr 3 (Operand.tmp 29) (Operand.const (Value.int IntKind.i64 0)) 3, type := 4, pos := "ref.go:19", after := #[{ on := 0, ground := Ground.data }], guard := none }) 1 (some 30) (v := ?v1_203) rfl rfl (by kernel_rfl) (by kernel_rfl) (by kernel_rfl) (fun _ _ _ h => h) (by kernel_rfl) ?hy203 hH0 ?_
            case hy203 => (intro w_ hSw; (try dsimp only at hSw); (obtain ⟨c0, c1, -⟩ := hSw; go_simp; (first | done | with_reducible rfl | rw [if_neg (by omega)])))
            simp only [Act.put, List.setIfInBounds_toArray, List.set_cons_zero, List.set_cons_succ]
            refine takeY (oi := { dst := some 31, op := Op.move (Operand.tmp 30), type := 4, pos := "ref.go:19", after := #[{ on := 1, ground := Ground.data }], guard := none }) 2 (some 31) (v := ?v2_204) rfl rfl (by kernel_rfl) (by kernel_rfl) (by kernel_rfl) (fun _ _ _ h => h) (by kernel_rfl) ?hy204 hH0 ?_
            case hy204 => (intro w_ hSw; (try dsimp only at hSw); (obtain ⟨c0, c1, -⟩ := hSw; go_simp; (first | done | with_reducible rfl | rw [if_neg (by omega)])))
            simp only [Act.put, List.setIfInBounds_toArray, List.set_cons_zero, List.set_cons_succ]
            refine takeY (oi := { dst := some 32, op := Op.move (Operand.tmp 0), type := 22, pos := "ref.go:19", after := #[{ on := 2, ground := Ground.guard }], guard := some (2, true) }) 3 (some 32) (v := ?v3_205) rfl rfl (by kernel_rfl) (by kernel_rfl) (by kernel_rfl) (fun _ _ _ h => h) (by kernel_rfl) ?hy205 hH0 ?_
            case hy205 => (intro w_ hSw; (try dsimp only at hSw); (obtain ⟨c0, c1, -⟩ := hSw; go_simp; (first | done | with_reducible rfl | rw [if_neg (by omega)])))
            simp only [Act.put, List.setIfInBounds_toArray, List.set_cons_zero, List.set_cons_succ]
            refine takeY (oi := { dst := some 33, op := Op.move (Operand.tmp 3), type := 3, pos := "ref.go:19", after := #[{ on := 2, ground := Ground.guard }], guard := some (2, true) }) 4 (some 33) (v := ?v4_206) rfl rfl (by kernel_rfl) (by kernel_rfl) (by kernel_rfl) (fun _ _ _ h => h) (by kernel_rfl) ?hy206 hH0 ?_
            case hy206 => (intro w_ hSw; (try dsimp only at hSw); (obtain ⟨c0, c1, -⟩ := hSw; go_simp; (first | done | with_reducible rfl | rw [if_neg (by omega)])))
            simp only [Act.put, List.setIfInBounds_toArray, List.set_cons_zero, List.set_cons_succ]
            refine takeY (oi := { dst := some 34, op := Op.binOp BinOp.sub 3 (Operand.tmp 33) (Operand.const (Value.int IntKind.i64 1)) 3, type := 3, pos := "ref.go:19", after := #[{ on := 4, ground := Ground.data }, { on := 2, ground := Ground.guard }], guard := some (2, true) }) 5 (some 34) (v := ?v5_207) rfl rfl (by kernel_rfl) (by kernel_rfl) (by kernel_rfl) (fun _ _ _ h => h) (by kernel_rfl) ?hy207 hH0 ?_
            case hy207 => (intro w_ hSw; (try dsimp only at hSw); (obtain ⟨c0, c1, -⟩ := hSw; go_simp; (first | done | with_reducible rfl | rw [if_neg (by omega)])))
            simp only [Act.put, List.setIfInBounds_toArray, List.set_cons_zero, List.set_cons_succ]
            refine takeY (oi := { dst := some 35, op := Op.indexAddr 22 (Operand.tmp 32) (Operand.tmp 34), type := 0, pos := "ref.go:19", after := #[{ on := 3, ground := Ground.data }, { on := 5, ground := Ground.data }, { on := 2, ground := Ground.guard }], guard := some (2, true) }) 6 (some 35) (v := ?v6_208) rfl rfl (by kernel_rfl) (by kernel_rfl) (by kernel_rfl) (fun _ _ _ h => h) (by kernel_rfl) ?hy208 hH0 ?_
            case hy208 => (intro w_ hSw; (try dsimp only at hSw); (obtain ⟨c0, c1, -⟩ := hSw; go_simp; (first | done | with_reducible rfl | rw [if_neg (by omega)])))
            simp only [Act.put, List.setIfInBounds_toArray, List.set_cons_zero, List.set_cons_succ]
            refine takeY (oi := { dst := some 36, op := Op.fieldAddr 117 (Operand.tmp 35) 0, type := 0, pos := "ref.go:19", after := #[{ on := 6, ground := Ground.data }, { on := 2, ground := Ground.guard }], guard := some (2, true) }) 7 (some 36) (v := ?v7_209) rfl rfl (by kernel_rfl) (by kernel_rfl) (by kernel_rfl) (fun _ _ _ h => h) (by kernel_rfl) ?hy209 hH0 ?_
            case hy209 => (intro w_ hSw; (try dsimp only at hSw); (obtain ⟨c0, c1, -⟩ := hSw; go_simp; (first | done | with_reducible rfl | rw [if_neg (by omega)])))
            simp only [Act.put, List.setIfInBounds_toArray, List.set_cons_zero, List.set_cons_succ]
            refine takeY (oi := { dst := some 37, op := Op.load 9 (Operand.tmp 36), type := 9, pos := "ref.go:19", after := #[{ on := 7, ground := Ground.data }, { on := 2, ground := Ground.guard }], guard := some (2, true) }) 8 (some 37) (v := ?v8_210) rfl rfl (by kernel_rfl) (by kernel_rfl) (by kernel_rfl) (fun _ _ _ h => h) (by kernel_rfl) ?hy210 hH0 ?_
            case hy210 => (intro w_ hSw; (try dsimp only at hSw); (obtain ⟨c0, c1, -⟩ := hSw; go_simp; (first | done | with_reducible rfl | rw [if_neg (by omega)])))
            simp only [Act.put, List.setIfInBounds_toArray, List.set_cons_zero, List.set_cons_succ]
            refine takeY (oi := { dst := some 38, op := Op.move (Operand.tmp 0), type := 22, pos := "ref.go:19", after := #[{ on := 2, ground := Ground.guard }], guard := some (2, true) }) 9 (some 38) (v := ?v9_211) rfl rfl (by kernel_rfl) (by kernel_rfl) (by kernel_rfl) (fun _ _ _ h => h) (by kernel_rfl) ?hy211 hH0 ?_
            case hy211 => (intro w_ hSw; (try dsimp only at hSw); (obtain ⟨c0, c1, -⟩ := hSw; go_simp; (first | done | with_reducible rfl | rw [if_neg (by omega)])))
            simp only [Act.put, List.setIfInBounds_toArray, List.set_cons_zero, List.set_cons_succ]
            refine takeY (oi := { dst := some 39, op := Op.move (Operand.tmp 3), type := 3, pos := "ref.go:19", after := #[{ on := 2, ground := Ground.guard }], guard := some (2, true) }) 10 (some 39) (v := ?v10_212) rfl rfl (by kernel_rfl) (by kernel_rfl) (by kernel_rfl) (fun _ _ _ h => h) (by kernel_rfl) ?hy212 hH0 ?_
            case hy212 => (intro w_ hSw; (try dsimp only at hSw); (obtain ⟨c0, c1, -⟩ := hSw; go_simp; (first | done | with_reducible rfl | rw [if_neg (by omega)])))
            simp only [Act.put, List.setIfInBounds_toArray, List.set_cons_zero, List.set_cons_succ]
            refine takeY (oi := { dst := some 40, op := Op.indexAddr 22 (Operand.tmp 38) (Operand.tmp 39), type := 0, pos := "ref.go:19", after := #[{ on := 9, ground := Ground.data }, { on := 10, ground := Ground.data }, { on := 2, ground := Ground.guard }], guard := some (2, true) }) 11 (some 40) (v := ?v11_213) rfl rfl (by kernel_rfl) (by kernel_rfl) (by kernel_rfl) (fun _ _ _ h => h) (by kernel_rfl) ?hy213 hH0 ?_
            case hy213 => (intro w_ hSw; (try dsimp only at hSw); (obtain ⟨c0, c1, -⟩ := hSw; go_simp; (first | done | with_reducible rfl | rw [if_neg (by omega)])))
            simp only [Act.put, List.setIfInBounds_toArray, List.set_cons_zero, List.set_cons_succ]
            refine takeY (oi := { dst := some 41, op := Op.fieldAddr 117 (Operand.tmp 40) 0, type := 0, pos := "ref.go:19", after := #[{ on := 11, ground := Ground.data }, { on := 2, ground := Ground.guard }], guard := some (2, true) }) 12 (some 41) (v := ?v12_214) rfl rfl (by kernel_rfl) (by kernel_rfl) (by kernel_rfl) (fun _ _ _ h => h) (by kernel_rfl) ?hy214 hH0 ?_
            case hy214 => (intro w_ hSw; (try dsimp only at hSw); (obtain ⟨c0, c1, -⟩ := hSw; go_simp; (first | done | with_reducible rfl | rw [if_neg (by omega)])))
            simp only [Act.put, List.setIfInBounds_toArray, List.set_cons_zero, List.set_cons_succ]
            refine takeY (oi := { dst := some 42, op := Op.load 9 (Operand.tmp 41), type := 9, pos := "ref.go:19", after := #[{ on := 12, ground := Ground.data }, { on := 2, ground := Ground.guard }], guard := some (2, true) }) 13 (some 42) (v := ?v13_215) rfl rfl (by kernel_rfl) (by kernel_rfl) (by kernel_rfl) (fun _ _ _ h => h) (by kernel_rfl) ?hy215 hH0 ?_
            case hy215 => (intro w_ hSw; (try dsimp only at hSw); (obtain ⟨c0, c1, -⟩ := hSw; go_simp; (first | done | with_reducible rfl | rw [if_neg (by omega)])))
            simp only [Act.put, List.setIfInBounds_toArray, List.set_cons_zero, List.set_cons_succ]
            refine wpAnyH_ready (rs := [14]) (by kernel_rfl) (by simp) ?_
            refine AllReadyH.cons (o := { dst := some 43, op := Op.call { callee := Callee.value (Operand.func 106), args := #[Operand.tmp 37, Operand.tmp 42], argTypes := #[9, 9] }, type := 3, pos := "ref.go:19", after := #[{ on := 8, ground := Ground.data }, { on := 13, ground := Ground.data }, { on := 2, ground := Ground.chain }, { on := 2, ground := Ground.guard }], guard := some (2, true) }) rfl (fun K1 hK1 => ?_) AllReadyH.nil
            go_simp; refine (ref01_Compare_calls x0 y0 _ (by omega) (by omega)).mono ?_; rintro e w4 ⟨rfl, hb4⟩
            refine hK1.out _ _ ?hS216 (fun hH1 => ?_)
            case hS216 => ((try dsimp only); (exact ⟨pw_cell_below hb4 hH0.1, pw_cell_below hb4 hH0.2.1, keepB0 hb4 hH0.2.2⟩))
            clear hK1 K1
            (try clear hH0)
            (try simp only [Act.put, List.setIfInBounds_toArray, List.set_cons_zero, List.set_cons_succ])
            refine takeY (oi := { dst := some 44, op := Op.binOp BinOp.geq 3 (Operand.tmp 43) (Operand.const (Value.int IntKind.i64 0)) 3, type := 4, pos := "ref.go:19", after := #[{ on := 14, ground := Ground.data }, { on := 2, ground := Ground.guard }], guard := some (2, true) }) 15 (some 44) (v := ?v15_217) rfl rfl (by kernel_rfl) (by kernel_rfl) (by kernel_rfl) (fun _ _ _ h => h) (by kernel_rfl) ?hy217 hH1 ?_
            case hy217 => (intro w_ hSw; (try dsimp only at hSw); (obtain ⟨c0, c1, -⟩ := hSw; go_simp; (first | done | with_reducible rfl | rw [if_neg (by omega)])))
            simp only [Act.put, List.setIfInBounds_toArray, List.set_cons_zero, List.set_cons_succ]
            refine takeY (oi := { dst := some 45, op := Op.pick (Operand.tmp 31) (Operand.tmp 44) (Operand.const (Value.bool false)), type := 4, pos := "ref.go:19", after := #[{ on := 2, ground := Ground.data }, { on := 15, ground := Ground.data }], guard := none }) 16 (some 45) (v := ?v16_218) rfl rfl (by kernel_rfl) (by kernel_rfl) (by kernel_rfl) (fun _ _ _ h => h) (by kernel_rfl) ?hy218 hH1 ?_
            case hy218 => (intro w_ hSw; (try dsimp only at hSw); (obtain ⟨c0, c1, -⟩ := hSw; go_simp; (first | done | with_reducible rfl | rw [if_neg (by omega)])))
            simp only [Act.put, List.setIfInBounds_toArray, List.set_cons_zero, List.set_cons_succ]
            refine wpAnyH_done (by kernel_rfl) ?_ _
            have hEnd := hH1
            clear hH1
            have HB2 := Lib.hid hEnd.2.2
            go_wp2
            go_roundw
            case rel => exact ⟨m + 1 + 1, by omega, by go_num, HB2, Lib.hid (by rw [← HS2.out]; exact HI.out)⟩
            case measure => simp [intOf]; omega
      · have hlt2 : ¬ (k : Int) < (l.length : Int) := by omega
        go_wp2
        go_ret
        refine ⟨ret_bool ?_, HB.out⟩
        have := HI.out
        rw [List.drop_eq_nil_of_le (by omega)] at this
        unfold propsRight
        rw [← this, propsFrom, Bool.true_and]
        exact (decide_eq_true h16).symm
  · have h16' : (16 : Int) < (l.length : Int) := by omega
    go_enter Try.func75, Try.ntmps75
    go_wp2
    go_ret
    exact ⟨ret_bool (by unfold propsRight; rw [decide_eq_false h16, Bool.and_false]), Below.refl _ _⟩

set_option maxRecDepth 100000 in
set_option maxHeartbeats 4000000 in
theorem ref16_Check_calls (label : ByteArray) (A B : Option Addr) (c d : Nat) (ps : List SPrp) (ids : List Int) (w : World) (hl : label.size ≤ 100000) (hp : kPrp.C w A ps.length ps) (hf : fits ps) (hi : (Kd.int .i64).C w B ids.length ids) :
    Calls Try.prog 36 #[.string label, .slice A ps.length c, .slice B ids.length d] w fun e w' => e = .returned (.int .i64 (checkN label ps ids)) ∧ Below w.heap.size w w' := by
  have hm := Kd.C_max hi
  have HP := Lib.hid hp; clear hp
  have HX := Lib.hid hi; clear hi
  have HF := Lib.hid hf; clear hf
  go_enter Try.func36, Try.ntmps36
  go_wp2
  go_loopw [7] (fun v7 wr => ∃ k : Nat, k ≤ ids.length ∧ v7 = .int .i64 k ∧ wr = w ∧ Hid ((ids.drop k).all idOk = ids.all idOk)) (fun v7 _ => ids.length - (intOf v7).toNat)
  case atStart => exact ⟨0, Nat.zero_le _, rfl, rfl, Lib.hid rfl⟩
  case round =>
    obtain ⟨k, hk, rfl, rfl, HI⟩ := hrel
    by_cases hlt : k < ids.length
    · have hlt2 : (k : Int) < (ids.length : Int) := by omega
      have HD := Lib.hid (drop_cons ids k 0 hlt)
      obtain ⟨ad, rfl, g0⟩ := Kd.at_int HX.out (k : Int) (by omega) (by omega)
      simp only [Int.toNat_natCast, rd] at g0
      generalize ids.getD k 0 = x at HD g0
      cases hok : idOk x with
      | true =>
        have hx : 0 ≤ x ∧ x < 1099511627776 := by simpa [idOk] using hok
        obtain ⟨hx0, hx1⟩ := hx
        have hx2 : ¬ x < 0 := by omega
        have hx3 : ¬ 1099511627776 ≤ x := by omega
        go_wp2
        go_roundw
        case rel => exact ⟨k + 1, by omega, by go_num, by trivial, Lib.hid (by rw [← HI.out, HD.out, List.all_cons, hok, Bool.true_and])⟩
        case measure => simp [intOf]; omega
      | false =>
        have HE : Hid (checkN label ps ids = 2) := Lib.hid (by unfold checkN; rw [← HI.out, HD.out, List.all_cons, hok]; rfl)
        by_cases hx : x < 0
        · go_wp2
          go_ret
          exact ⟨ret_int HE.out.symm, Below.refl _ _⟩
        · have hx3 : 1099511627776 ≤ x := by
            have : ¬ (0 ≤ x ∧ x < 1099511627776) := fun h => by rw [idOk, decide_eq_true h.1, decide_eq_true h.2] at hok; cases hok
            omega
          go_wp2
          go_ret
          exact ⟨ret_int HE.out.symm, Below.refl _ _⟩
    · have hlt2 : ¬ (k : Int) < (ids.length : Int) := by omega
      have HA : Hid (ids.all idOk = true) := Lib.hid (by rw [← HI.out, List.drop_eq_nil_of_le (by omega)]; rfl)
      cases h2 : nameRight label with
      | false =>
        go_wp2_with (go_at_call 67; refine (ref01_Right_calls label _ hl).mono ?_; rw [h2]; rintro e w2 ⟨rfl, hb2⟩)
        go_ret
        exact ⟨ret_int (by unfold checkN; rw [HA.out, h2]; rfl), hb2⟩
      | true =>
        cases h3 : propsRight ps with
        | false =>
          go_wp2_with (first
            | (go_at_call 67; refine (ref01_Right_calls label _ hl).mono ?_; rw [h2]; rintro e w2 ⟨rfl, hb2⟩)
            | (go_at_call 75; refine (ref03_Right_calls A c ps _ (Kd.C_below HP.out hb2) HF.out).mono ?_; rw [h3]; rintro e w3 ⟨rfl, hb3⟩))
          go_ret
          exact ⟨ret_int (by unfold checkN; rw [HA.out, h2, h3]; rfl), keepB0 hb3 hb2⟩
        | true =>
          go_wp2_with (first
            | (go_at_call 67; refine (ref01_Right_calls label _ hl).mono ?_; rw [h2]; rintro e w2 ⟨rfl, hb2⟩)
            | (go_at_call 75; refine (ref03_Right_calls A c ps _ (Kd.C_below HP.out hb2) HF.out).mono ?_; rw [h3]; rintro e w3 ⟨rfl, hb3⟩))
          go_ret
          exact ⟨ret_int (by unfold checkN; rw [HA.out, h2, h3]; rfl), keepB0 hb3 hb2⟩
end Go.Proofs.Ytonbnlfijmapfaa
/- What came in, opened: from the way a datum reads to the kinds of rows. No condition. -/
namespace Go.Proofs.Ytonbnlfijmapfaa
open Go.RowKit Go.Proofs.YtonbnlfijmapfaaW.PrintWords
set_option linter.unusedVariables false
set_option linter.unusedSimpArgs false

/-- A datum of type T reads as one of the kind d, with g. -/
def Opens {α : Type} (d : Kd α) (T : TypeId) (g : α → Prop) : Prop :=
  ∀ {H : Type} (enc : TypeId × Value → H) (w : World) (sp : Nat → Bool) (held : Bool) (fuel : Nat) (cs : List Value) (x : DataW H × List MemPlace), DataW.trod enc Try.prog w 0 sp held fuel T cs = some x → ∃ a, d.K w a cs ∧ g a

theorem opens_int {T : TypeId} {k : IntKind} (ht : Try.prog.underlying T = some (.int k)) : Opens (Kd.int k) T (fun n => (Lit.int k n).wf = true) := by
  intro H enc w sp held fuel cs x h
  obtain ⟨n, rfl, _, hw⟩ := DataW.trod_int ht h
  exact ⟨n, rfl, hw⟩
theorem opens_string {T : TypeId} (ht : Try.prog.underlying T = some .string) : Opens Kd.string T (fun s => s.size ≤ maxLen) := by
  intro H enc w sp held fuel cs x h
  obtain ⟨s, rfl, _, hw⟩ := DataW.trod_string ht h
  exact ⟨s, rfl, hw⟩
theorem cells_each {w : World} {base : Nat} {a : Addr} {n : Nat} {cs : List Value} (h : w.cells? base a n = some cs) : cs.length = n ∧ ∀ i u, cs[i]? = some u → w.cell? (a.add i) = some u := by
  unfold World.cells? at h
  split at h
  · have hl := mapM_some_length h
    rw [List.length_range] at hl
    refine ⟨hl, fun i u hu => ?_⟩
    have hi : i < n := by
      rcases Nat.lt_or_ge i cs.length with h2 | h2
      · omega
      · rw [List.getElem?_eq_none h2] at hu; cases hu
    rw [mapM_some_get h i i (by simp [hi])]; exact hu
  · cases h
theorem add_add_ (ad : Addr) (i j : Nat) : (ad.add i).add j = ad.add (i + j) := by
  unfold Addr.add
  by_cases hi : i = 0 <;> by_cases hj : j = 0 <;> simp [hi, hj, Nat.add_assoc]
theorem opens_slice {α : Type} [Inhabited α] {d : Kd α} {T e : TypeId} {g : α → Prop} (ht : Try.prog.underlying T = some (.slice e)) (hc : Try.prog.cellsOf e = d.sz) (ho : Opens d e g) : Opens (Kd.slice e d) T (fun l => ∀ x ∈ l, g x) := by
  intro H enc w sp held fuel cs x h
  rcases DataW.trod_slice ht h with ⟨rfl, _⟩ | ⟨a, len, cap, elems, rest, n, _, rfl, _, _, hl, hm, hlen, hel, _, _⟩
  · exact ⟨[], ⟨none, 0, rfl, Nat.le_refl _, Kd.C_nil _ _⟩, fun x hx => by simp at hx⟩
  · have key : ∀ i, i < len → ∃ y cs', w.cells? 0 (a.add (i * Try.prog.cellsOf e)) (Try.prog.cellsOf e) = some cs' ∧ d.K w y cs' ∧ g y := by
      intro i hi
      have := hel i hi
      rw [List.getElem?_eq_getElem (by omega)] at this
      obtain ⟨cs', h1, h2⟩ := Option.bind_eq_some_iff.1 this
      obtain ⟨y, hk, hg⟩ := ho enc w sp held n cs' _ h2
      exact ⟨y, cs', h1, hk, hg⟩
    obtain ⟨f, hf⟩ := Go.Deep.choose_lt key
    have hlr : ((List.range len).map f).length = len := by simp
    refine ⟨(List.range len).map f, ⟨some a, cap, by rw [hlr], by rw [hlr]; exact hl, ?_⟩, fun x hx => ?_⟩
    · rw [hlr]
      refine ⟨hlr, by simp only [maxLen] at hm; omega, fun _ => ⟨a, rfl, fun j p hj => ?_⟩⟩
      have hjl : j < len := by
        rcases Nat.lt_or_ge j len with h2 | h2
        · exact h2
        · rw [List.getElem?_eq_none (by rw [hlr]; exact h2)] at hj; cases hj
      obtain rfl : p = f j := by simp [hjl] at hj; exact hj.symm
      obtain ⟨cs', h1, h2, h3⟩ := hf j hjl
      rw [hc] at h1
      obtain ⟨e1, e2⟩ := cells_each h1
      exact ⟨cs', e1, h2, fun i u hu => by rw [← add_add_]; exact e2 i u hu⟩
    · simp only [List.mem_map, List.mem_range] at hx
      obtain ⟨j, hj, rfl⟩ := hx
      obtain ⟨_, _, _, h3⟩ := hf j hj
      exact h3
instance : Inhabited SPrp := ⟨zPrp⟩
instance : Inhabited SVert := ⟨zVert⟩
instance : Inhabited SEdg := ⟨zEdg⟩

theorem len2 {α : Type} {l : List α} (h : l.length = 2) : ∃ a b, l = [a, b] := by
  match l, h with
  | [a, b], _ => exact ⟨a, b, rfl⟩
theorem len3 {α : Type} {l : List α} (h : l.length = 3) : ∃ a b c, l = [a, b, c] := by
  match l, h with
  | [a, b, c], _ => exact ⟨a, b, c, rfl⟩
theorem len4 {α : Type} {l : List α} (h : l.length = 4) : ∃ a b c d, l = [a, b, c, d] := by
  match l, h with
  | [a, b, c, d], _ => exact ⟨a, b, c, d, rfl⟩
theorem len5 {α : Type} {l : List α} (h : l.length = 5) : ∃ a b c d e, l = [a, b, c, d, e] := by
  match l, h with
  | [a, b, c, d, e], _ => exact ⟨a, b, c, d, e, rfl⟩
theorem co_int : Try.prog.cellsOf 3 = 1 := by kernel_rfl
theorem co_string : Try.prog.cellsOf 9 = 1 := by kernel_rfl
theorem co_Value : Try.prog.cellsOf 42 = 3 := by kernel_rfl
theorem co_Prp : Try.prog.cellsOf 117 = 4 := by kernel_rfl
theorem co_slPrp : Try.prog.cellsOf 22 = 1 := by kernel_rfl
theorem co_Vert : Try.prog.cellsOf 24 = 3 := by kernel_rfl
theorem co_Edg : Try.prog.cellsOf 35 = 5 := by kernel_rfl
theorem opens_Value : Opens kValue 42 (fun v => (Lit.int .i64 v.f0).wf = true ∧ (Lit.int .i64 v.f1).wf = true ∧ v.f2.size ≤ maxLen) := by
  intro H enc w sp held fuel cs x h
  obtain ⟨xs, n, _, _, hl, hn, hx⟩ := DataW.trod_struct Try.underlying42 h
  have hl3 : cs.length = 3 := hl.trans co_Value
  have hn3 : xs.length = 3 := hn
  obtain ⟨c0, c1, c2, rfl⟩ := len3 hl3
  obtain ⟨x0, x1, x2, rfl⟩ := len3 hn3
  clear hl hn hl3 hn3 h
  obtain ⟨a0, k0, g0⟩ := opens_int Try.underlying3 enc w sp held n [c0] x0 (by have h := hx 0 _ rfl; simp [co_int, co_string, co_Value, co_Prp, co_slPrp] at h; exact h)
  obtain ⟨a1, k1, g1⟩ := opens_int Try.underlying3 enc w sp held n [c1] x1 (by have h := hx 1 _ rfl; simp [co_int, co_string, co_Value, co_Prp, co_slPrp] at h; exact h)
  obtain ⟨a2, k2, g2⟩ := opens_string Try.underlying9 enc w sp held n [c2] x2 (by have h := hx 2 _ rfl; simp [co_int, co_string, co_Value, co_Prp, co_slPrp] at h; exact h)
  cases k0; cases k1; cases k2
  exact ⟨⟨a0, a1, a2⟩, kValue_mk _ _, g0, g1, g2⟩
theorem opens_Prp : Opens kPrp 117 (fun p => p.f0.size ≤ maxLen ∧ (Lit.int .i64 p.f1.f0).wf = true ∧ (Lit.int .i64 p.f1.f1).wf = true ∧ p.f1.f2.size ≤ maxLen) := by
  intro H enc w sp held fuel cs x h
  obtain ⟨xs, n, _, _, hl, hn, hx⟩ := DataW.trod_struct Try.underlying117 h
  have hl3 : cs.length = 4 := hl.trans co_Prp
  have hn3 : xs.length = 2 := hn
  obtain ⟨c0, c1, c2, c3, rfl⟩ := len4 hl3
  obtain ⟨x0, x1, rfl⟩ := len2 hn3
  clear hl hn hl3 hn3 h
  obtain ⟨a0, k0, g0⟩ := opens_string Try.underlying9 enc w sp held n [c0] x0 (by have h := hx 0 _ rfl; simp [co_int, co_string, co_Value, co_Prp, co_slPrp] at h; exact h)
  obtain ⟨a1, k1, g1⟩ := opens_Value enc w sp held n [c1, c2, c3] x1 (by have h := hx 1 _ rfl; simp [co_int, co_string, co_Value, co_Prp, co_slPrp] at h; exact h)
  cases k0
  have e := kValue_open k1
  simp only [List.cons.injEq, and_true] at e
  obtain ⟨rfl, rfl, rfl⟩ := e
  exact ⟨⟨a0, a1⟩, kPrp_mk _ _, g0, g1⟩
theorem opens_Vert : Opens kVert 24 (fun v => (Lit.int .i64 v.f0).wf = true ∧ v.f1.size ≤ maxLen ∧ ∀ p ∈ v.f2, p.f0.size ≤ maxLen ∧ (Lit.int .i64 p.f1.f0).wf = true ∧ (Lit.int .i64 p.f1.f1).wf = true ∧ p.f1.f2.size ≤ maxLen) := by
  intro H enc w sp held fuel cs x h
  obtain ⟨xs, n, _, _, hl, hn, hx⟩ := DataW.trod_struct Try.underlying24 h
  have hl3 : cs.length = 3 := hl.trans co_Vert
  have hn3 : xs.length = 3 := hn
  obtain ⟨c0, c1, c2, rfl⟩ := len3 hl3
  obtain ⟨x0, x1, x2, rfl⟩ := len3 hn3
  clear hl hn hl3 hn3 h
  obtain ⟨a0, k0, g0⟩ := opens_int Try.underlying3 enc w sp held n [c0] x0 (by have h := hx 0 _ rfl; simp [co_int, co_string, co_Value, co_Prp, co_slPrp] at h; exact h)
  obtain ⟨a1, k1, g1⟩ := opens_string Try.underlying9 enc w sp held n [c1] x1 (by have h := hx 1 _ rfl; simp [co_int, co_string, co_Value, co_Prp, co_slPrp] at h; exact h)
  obtain ⟨a2, ⟨A2, d2, k2, l2, r2⟩, g2⟩ := opens_slice Try.underlying22 (d := kPrp) co_Prp opens_Prp enc w sp held n [c2] x2 (by have h := hx 2 _ rfl; simp [co_int, co_string, co_Value, co_Prp, co_slPrp] at h; exact h)
  cases k0; cases k1; cases k2
  exact ⟨⟨a0, a1, a2⟩, kVert_mk _ _ l2 r2, g0, g1, g2⟩
end Go.Proofs.Ytonbnlfijmapfaa
/- What came in, opened: values, texts, numbers. No condition. -/
namespace Go.Proofs.Ytonbnlfijmapfaa
set_option linter.constructorNameAsVariable false
open Go.RowKit Go.ChangeShapes Go.WideShapes Go.Proofs.YtonbnlfijmapfaaW.PrintWords
set_option linter.unusedVariables false
set_option linter.unusedSimpArgs false

set_option maxRecDepth 100000
section
variable {H : Type} {enc : TypeId × Value → H} {W : World} {sp : Nat → Bool} {held : Bool} {r : Reach} {b : Nat} {v : Value} {d : DataW H} {p : List MemPlace}
theorem wf_rng {n : Int} (h : (Lit.int .i64 n).wf = true) : -9223372036854775808 ≤ n ∧ n ≤ 9223372036854775807 := by
  simpa [Lit.wf, IntKind.min, IntKind.max, IntKind.signed, IntKind.bits] using h
theorem open_value (hv : Value.okWide Try.prog W r b 42 v) (h : DataW.Trod enc Try.prog W 0 sp held 42 v d p) :
    ∃ (k n : Int) (s : ByteArray), v = .agg #[.int .i64 k, .int .i64 n, .string s] ∧ (-9223372036854775808 ≤ n ∧ n ≤ 9223372036854775807) ∧ s.size ≤ maxLen := by
  obtain ⟨cs, rfl, -⟩ := okWide_struct Try.underlying42 hv
  obtain ⟨fuel, hf⟩ := h
  obtain ⟨x, hK, hg⟩ := opens_Value enc W sp held fuel _ _ hf
  have e := kValue_open hK
  have e2 : cs.toList = [.int .i64 x.f0, .int .i64 x.f1, .string x.f2] := by simpa [Value.cells] using e
  refine ⟨x.f0, x.f1, x.f2, by rw [← Array.toList_inj.1 (show cs.toList = (#[Value.int .i64 x.f0, .int .i64 x.f1, .string x.f2] : Array Value).toList from e2)], wf_rng hg.2.1, hg.2.2⟩
theorem open_num (hv : Value.okWide Try.prog W r b 3 v) (h : DataW.Trod enc Try.prog W 0 sp held 3 v d p) : ∃ x : Int, v = .int .i64 x ∧ (-9223372036854775808 ≤ x ∧ x ≤ 9223372036854775807) := by
  obtain ⟨x, rfl, _, _, hw⟩ := Go.ChangeShapes.open_int Try.underlying3 hv h
  exact ⟨x, rfl, wf_rng hw⟩
theorem okWide_arr {n : Nat} {e t : TypeId} (ht : Try.prog.underlying t = some (.array n e)) (h : Value.okWide Try.prog W r b t v) : ∃ cs, v = .agg cs ∧ cs.size = Try.prog.cellsOf t := by
  simp only [Value.okWide, ht] at h
  obtain ⟨cs, h1, h2, _⟩ := h
  exact ⟨cs, h1, h2⟩
theorem open_names (hv : Value.okWide Try.prog W r b 53 v) (h : DataW.Trod enc Try.prog W 0 sp held 53 v d p) : ∃ x y : ByteArray, v = .agg #[.string x, .string y] := by
  obtain ⟨cs, rfl, -⟩ := okWide_arr Try.underlying53 hv
  obtain ⟨fuel, hf⟩ := h
  obtain ⟨xs, m, _, _, hl, hn, hx⟩ := DataW.trod_array Try.underlying53 hf
  have hl2 : (Value.agg cs).cells.toList.length = 2 := hl.trans (by kernel_rfl)
  obtain ⟨c0, c1, e⟩ := len2 hl2
  obtain ⟨x0, x1, rfl⟩ := len2 hn
  have g0 := hx 0 (by omega)
  have g1 := hx 1 (by omega)
  rw [e] at g0 g1
  simp [co_string] at g0 g1
  obtain ⟨n0, k0, -⟩ := DataW.trod_string Try.underlying9 g0
  obtain ⟨n1, k1, -⟩ := DataW.trod_string Try.underlying9 g1
  simp only [List.cons.injEq, and_true] at k0 k1
  subst k0; subst k1
  refine ⟨n0, n1, ?_⟩
  have e2 : cs.toList = (#[Value.string n0, .string n1] : Array Value).toList := by simpa [Value.cells] using e
  rw [Array.toList_inj.1 e2]
end
end Go.Proofs.Ytonbnlfijmapfaa
/- cobweblaw21.awake. -/
namespace Go.Proofs.Ytonbnlfijmapfaa
open Go.RowKit Go.Shelf Go.Proofs.YtonbnlfijmapfaaW.PrintWords
set_option linter.unusedVariables false
set_option linter.unusedSimpArgs false

theorem awake_check : checkN ⟨#[97]⟩ [] [7] = 0 := by kernel_rfl
theorem awake_text : vertexText 7 ⟨#[97]⟩ [] = ⟨#[1, 97, 0]⟩ := by kernel_rfl
theorem awake_entries : entries 7 ⟨#[97]⟩ [] = [⟨⟨#[76, 97]⟩, ⟨#[0, 0, 0, 0, 7]⟩⟩] := by kernel_rfl

set_option maxRecDepth 100000 in
set_option maxHeartbeats 2000000 in
theorem law21_awake_calls (w : World) :
    Calls Try.prog 15 #[] w fun e w' => e = .returned (.bool true) ∧ Below w.heap.size w w' := by
  have q1 := eq_Entry (decide_eq_true (Eq.refl (⟨⟨#[76, 97]⟩, ⟨#[0, 0, 0, 0, 7]⟩⟩ : SEntry)))
  have q2 := eq_Key (decide_eq_true (Eq.refl (⟨1, 7, 0, ⟨#[]⟩⟩ : SKey)))
  have hf : fits [] := fun _ h => by simp at h
  have hg : ranged [] := fun _ h => by simp at h
  go_enter Try.func15, Try.ntmps15
  go_wp2_with (first
    | (go_at_call 17; refine (web_VertexText_calls 7 ⟨#[97]⟩ none 0 [] _ (by decide) (Kd.C_nil _ _) hf hg).mono ?_; rw [awake_text, awake_check]; rintro e w1 ⟨rfl, hb1⟩; have K1 : w1.cell? ⟨w.heap.size, 0, none⟩ = some (.int .i64 7) ∧ w1.cell? ⟨w.heap.size, 1, none⟩ = some (.string ⟨#[97]⟩) ∧ w1.cell? ⟨w.heap.size, 2, none⟩ = some (.slice none 0 0) := (fun K => ⟨blk_cell K 0, blk_cell K 1, blk_cell K 2⟩) (blk_below hb1 (blk_new w #[.int .i64 7, .string ⟨#[97]⟩, .slice none 0 0] 24)); obtain ⟨K1, K2, K3⟩ := K1; have HB1 := Lib.hid (keepB0 hb1 (below_al _ _)); clear hb1)
    | (go_at_call 20; refine (web_Entries_calls 7 ⟨#[97]⟩ none 0 [] _ (by decide) (Kd.C_nil _ _) hf hg).mono ?_; rw [awake_entries]; rintro e w2 ⟨v2, rfl, hR2, hb2⟩; have HB2 := Lib.hid (keepB0 hb2 HB1.out); clear hb2; obtain ⟨A2, c2, rfl, -, hC2⟩ := Kd.R_reads hR2; obtain ⟨ad, rfl, g0, g1⟩ := at_Entry hC2 0 (by decide) (by decide); simp only [rd_Entry, Int.toNat_zero, Nat.zero_mul, add_zero_] at g0 g1)
    | (go_at_call 27; refine (web_VertexKey_calls _ _).mono ?_; rintro e w3 ⟨rfl, hb3⟩; have HB3 := Lib.hid (keepB0 hb3 HB2.out); clear hb3))
  go_ret
  exact ⟨rfl, HB3.out⟩
end Go.Proofs.Ytonbnlfijmapfaa
/- Plain: texts and what is read of them; unlike things have unlike texts. No condition. -/
namespace Go.Proofs.Ytonbnlfijmapfaa
open Go.RowKit Go.Shelf Go.Proofs.YtonbnlfijmapfaaW.PrintWords
set_option linter.unusedVariables false
set_option linter.unusedSimpArgs false

theorem bytesOf_inj {a b : ByteArray} (h : bytesOf a = bytesOf b) : a = b := by
  cases a with | mk x => cases b with | mk y =>
  simp only [bytesOf] at h
  have h2 : x.toList = y.toList := by
    have := congrArg (List.map fun n : Int => UInt8.ofNat n.toNat) h
    simpa [List.map_map, Function.comp_def] using this
  rw [Array.toList_inj.1 h2]
theorem bytesOf_append (a b : ByteArray) : bytesOf (a ++ b) = bytesOf a ++ bytesOf b := by simp [bytesOf]
def byteList (l : List Int) : Prop := ∀ x ∈ l, 0 ≤ x ∧ x < 256
theorem bytesOf_strOfNums {l : List Int} (h : byteList l) : bytesOf (strOfNums l) = l := by
  simp only [bytesOf, strOfNums, List.map_map]
  conv => rhs; rw [← List.map_id l]
  refine List.map_congr_left fun x hx => ?_
  obtain ⟨h0, h1⟩ := h x hx
  simp only [Function.comp, id]
  have e : (UInt8.ofNat x.toNat).toNat = x.toNat := by simp; omega
  rw [e]; omega
theorem byteList_bytesOf (s : ByteArray) : byteList (bytesOf s) := by
  intro x hx
  simp only [bytesOf, List.mem_map] at hx
  obtain ⟨b, _, rfl⟩ := hx
  have := b.toNat_lt
  omega
theorem byteList_append {a b : List Int} (ha : byteList a) (hb : byteList b) : byteList (a ++ b) := by
  intro x hx
  rcases List.mem_append.1 hx with h | h
  · exact ha x h
  · exact hb x h
theorem byteList_cons {a : Int} {b : List Int} (h0 : 0 ≤ a) (h1 : a < 256) (hb : byteList b) : byteList (a :: b) := by
  intro x hx
  rcases List.mem_cons.1 hx with rfl | h
  · exact ⟨h0, h1⟩
  · exact hb x h
theorem byteList_esc : ∀ {l : List Int}, byteList l → byteList (esc l)
  | [], _ => by simp [esc, byteList]
  | c :: t, h => by
    have h1 := byteList_esc (l := t) (fun x hx => h x (List.mem_cons_of_mem _ hx))
    have h2 := h c List.mem_cons_self
    rw [esc]
    split
    · exact byteList_cons (by omega) (by omega) (byteList_cons (by omega) (by omega) h1)
    · exact byteList_cons h2.1 h2.2 h1
theorem byteList_u8z (u : Int) : byteList ((List.range 8).map (u8z u)) := by
  intro x hx
  simp only [List.mem_map] at hx
  obtain ⟨j, _, rfl⟩ := hx
  unfold u8z
  omega
theorem byteList_val (k n : Int) (s : ByteArray) : byteList (valBytes k n s) := by
  unfold valBytes
  split
  · exact byteList_cons (by omega) (by omega) (byteList_u8z _)
  · exact byteList_cons (by omega) (by omega) (byteList_append (byteList_esc (byteList_bytesOf s)) (by intro x hx; simp at hx; omega))
theorem byteList_prop (p : SPrp) : byteList (propBytes p) :=
  byteList_cons (by omega) (by omega) (byteList_append (byteList_bytesOf _) (byteList_val _ _ _))
theorem byteList_five (n : Int) : byteList (fiveBytes n) := by intro x hx; simp [fiveBytes] at hx; omega

/-- What stands behind a text's end is told apart. -/
theorem esc_end : ∀ {a b : List Int} {x y : List Int}, esc a ++ 0 :: 0 :: x = esc b ++ 0 :: 0 :: y → a = b ∧ x = y
  | [], [], x, y, h => by simpa [esc] using h
  | [], c :: t, x, y, h => by
    simp only [esc, List.nil_append] at h
    split at h <;> simp at h
    · omega
  | c :: t, [], x, y, h => by
    simp only [esc, List.nil_append] at h
    split at h <;> simp at h
    · omega
  | c :: t, d :: r, x, y, h => by
    simp only [esc] at h
    split at h <;> split at h
    · simp only [List.cons_append, List.cons.injEq, true_and] at h
      obtain ⟨rfl, rfl⟩ := esc_end h
      exact ⟨by simp_all, rfl⟩
    · simp only [List.cons_append, List.cons.injEq] at h; omega
    · simp only [List.cons_append, List.cons.injEq] at h; omega
    · simp only [List.cons_append, List.cons.injEq] at h
      obtain ⟨rfl, h⟩ := h
      obtain ⟨rfl, rfl⟩ := esc_end h
      exact ⟨rfl, rfl⟩

theorem u8z_inj {u v : Int} (h0 : 0 ≤ u) (h1 : u < 18446744073709551616) (g0 : 0 ≤ v) (g1 : v < 18446744073709551616) (h : (List.range 8).map (u8z u) = (List.range 8).map (u8z v)) : u = v := by
  have e : ∀ j, j < 8 → u8z u j = u8z v j := by
    intro j hj
    have := congrArg (fun l => l[j]?) h
    simpa [hj] using this
  have e0 := e 0 (by omega); have e1 := e 1 (by omega); have e2 := e 2 (by omega); have e3 := e 3 (by omega)
  have e4 := e 4 (by omega); have e5 := e 5 (by omega); have e6 := e 6 (by omega); have e7 := e 7 (by omega)
  clear e h
  simp only [u8z, Nat.mul_zero, Nat.sub_zero, Nat.reduceMul, Nat.reduceSub, Int.reducePow] at e0 e1 e2 e3 e4 e5 e6 e7
  have a1 : u / 72057594037927936 = v / 72057594037927936 := by omega
  have a2 : u / 281474976710656 = v / 281474976710656 := by omega
  have a3 : u / 1099511627776 = v / 1099511627776 := by omega
  have a4 : u / 4294967296 = v / 4294967296 := by omega
  have a5 : u / 16777216 = v / 16777216 := by omega
  have a6 : u / 65536 = v / 65536 := by omega
  have a7 : u / 256 = v / 256 := by omega
  omega
theorem empty_of {s : ByteArray} (h : s.toList.isEmpty = true) : s = ⟨#[]⟩ := by
  have e : (s.toList == (⟨#[]⟩ : ByteArray).toList) = true := by
    rw [List.isEmpty_iff.1 h]; kernel_rfl
  rw [toList_eq] at e
  exact of_decide_eq_true e
theorem val_end {k n k' n' : Int} {s s' : ByteArray} (hk : valOk k n s = true) (hk' : valOk k' n' s' = true) (h0 : -9223372036854775808 ≤ n) (h1 : n ≤ 9223372036854775807) (g0 : -9223372036854775808 ≤ n') (g1 : n' ≤ 9223372036854775807)
    {x y : List Int} (h : valBytes k n s ++ x = valBytes k' n' s' ++ y) : (k = k' ∧ n = n' ∧ s = s') ∧ x = y := by
  have one : ∀ {k n : Int} {s : ByteArray}, valOk k n s = true → (k = 1 ∧ s = ⟨#[]⟩) ∨ (k = 2 ∧ n = 0) := by
    intro k n s h
    rcases thingV_cases k n s with h2 | h2 | h2
    · rw [h] at h2; cases h2.1
    · obtain ⟨_, rfl, h3, _⟩ := h2
      refine .inl ⟨rfl, ?_⟩
      exact empty_of h3
    · exact .inr ⟨h2.2.1, h2.2.2.1⟩
  rcases one hk with ⟨rfl, rfl⟩ | ⟨rfl, rfl⟩ <;> rcases one hk' with ⟨rfl, rfl⟩ | ⟨rfl, rfl⟩
  · simp only [valBytes, if_true, intBytes, List.cons_append, List.cons.injEq, true_and] at h
    have hl := List.append_inj h (by simp)
    have := u8z_inj (by omega) (by omega) (by omega) (by omega) hl.1
    exact ⟨⟨rfl, by omega, rfl⟩, hl.2⟩
  · simp [valBytes, intBytes] at h
  · simp [valBytes, intBytes] at h
  · simp only [valBytes, show ¬ (2 : Int) = 1 by omega, if_false, List.cons_append, List.cons.injEq, true_and, List.append_assoc, List.nil_append] at h
    obtain ⟨h1, h2⟩ := esc_end h
    exact ⟨⟨rfl, rfl, bytesOf_inj h1⟩, h2⟩

theorem prop_end {p q : SPrp} (hp : p.f1.ok = true) (hq : q.f1.ok = true) (rp : -9223372036854775808 ≤ p.f1.f1 ∧ p.f1.f1 ≤ 9223372036854775807) (rq : -9223372036854775808 ≤ q.f1.f1 ∧ q.f1.f1 ≤ 9223372036854775807) (sp : p.f0.size < 256) (sq : q.f0.size < 256)
    {x y : List Int} (h : propBytes p ++ x = propBytes q ++ y) : p = q ∧ x = y := by
  simp only [propBytes, List.cons_append, List.cons.injEq, List.append_assoc] at h
  obtain ⟨h1, h2⟩ := h
  have hs : p.f0.size = q.f0.size := by omega
  obtain ⟨h3, h4⟩ := List.append_inj h2 (by rw [bytesOf_length, bytesOf_length, hs])
  obtain ⟨⟨e1, e2, e3⟩, h5⟩ := val_end hp hq rp.1 rp.2 rq.1 rq.2 h4
  refine ⟨?_, h5⟩
  cases p with | mk k v => cases v with | mk a b c => cases q with | mk k' v' => cases v' with | mk a' b' c' =>
  simp only at e1 e2 e3 h3
  rw [e1, e2, e3, bytesOf_inj h3]
def shortKeys (ps : List SPrp) : Prop := ∀ p ∈ ps, p.f0.size < 256
theorem flat_inj : ∀ {l m : List SPrp}, l.length = m.length → (∀ p ∈ l, p.f1.ok = true) → (∀ p ∈ m, p.f1.ok = true) → ranged l → ranged m → shortKeys l → shortKeys m → l.flatMap propBytes = m.flatMap propBytes → l = m
  | [], [], _, _, _, _, _, _, _, _ => rfl
  | p :: l, q :: m, hl, h1, h2, r1, r2, s1, s2, h => by
    simp only [List.flatMap_cons] at h
    obtain ⟨rfl, h'⟩ := prop_end (h1 p List.mem_cons_self) (h2 q List.mem_cons_self) (r1 p List.mem_cons_self) (r2 q List.mem_cons_self) (s1 p List.mem_cons_self) (s2 q List.mem_cons_self) h
    rw [flat_inj (by simpa using hl) (fun p hp => h1 p (List.mem_cons_of_mem _ hp)) (fun p hp => h2 p (List.mem_cons_of_mem _ hp)) (fun p hp => r1 p (List.mem_cons_of_mem _ hp)) (fun p hp => r2 p (List.mem_cons_of_mem _ hp)) (fun p hp => s1 p (List.mem_cons_of_mem _ hp)) (fun p hp => s2 p (List.mem_cons_of_mem _ hp)) h']
theorem byteList_props {ps : List SPrp} (h : ps.length ≤ 16) : byteList (propsBytes ps) := by
  refine byteList_cons (by omega) (by omega) ?_
  intro x hx
  obtain ⟨p, _, hx⟩ := List.mem_flatMap.1 hx
  exact byteList_prop p x hx
theorem bytesOf_body {s : ByteArray} {ps : List SPrp} (h : ps.length ≤ 16) : bytesOf (bodyText s ps) = (s.size : Int) % 256 :: (bytesOf s ++ propsBytes ps) := by
  rw [bodyText, bytesOf_append, bytesOf_append, bytesOf_strOfNums (byteList_cons (by omega) (by omega) (by intro x hx; simp at hx)), bytesOf_strOfNums (byteList_props h)]
  rfl
/-- Unlike labels and properties have unlike texts. -/
theorem body_inj {s s' : ByteArray} {l m : List SPrp} (hs : s.size < 256) (hs' : s'.size < 256) (hl : propsRight l = true) (hm : propsRight m = true) (r1 : ranged l) (r2 : ranged m) (s1 : shortKeys l) (s2 : shortKeys m) (h : bodyText s l = bodyText s' m) : s = s' ∧ l = m := by
  obtain ⟨o1, l1⟩ := propsRight_ok hl
  obtain ⟨o2, l2⟩ := propsRight_ok hm
  have h2 := congrArg bytesOf h
  rw [bytesOf_body l1, bytesOf_body l2] at h2
  simp only [List.cons.injEq] at h2
  obtain ⟨h3, h4⟩ := h2
  obtain ⟨h5, h6⟩ := List.append_inj h4 (by rw [bytesOf_length, bytesOf_length]; omega)
  simp only [propsBytes, List.cons.injEq] at h6
  exact ⟨bytesOf_inj h5, flat_inj (by omega) (fun p hp => (o1 p hp).2) (fun p hp => (o2 p hp).2) r1 r2 s1 s2 h6.2⟩
theorem five_inj {a b : Int} (ha : idOk a = true) (hb : idOk b = true) (h : fiveBytes a = fiveBytes b) : a = b := by
  simp only [idOk, Bool.and_eq_true, decide_eq_true_eq] at ha hb
  simp only [fiveBytes, List.cons.injEq, and_true] at h
  obtain ⟨e0, e1, e2, e3, e4⟩ := h
  have a1 : a / 4294967296 = b / 4294967296 := by omega
  have a2 : a / 16777216 = b / 16777216 := by omega
  have a3 : a / 65536 = b / 65536 := by omega
  have a4 : a / 256 = b / 256 := by omega
  omega
theorem five_text_inj {a b : Int} (ha : idOk a = true) (hb : idOk b = true) (h : strOfNums (fiveBytes a) = strOfNums (fiveBytes b)) : a = b := by
  have := congrArg bytesOf h
  rw [bytesOf_strOfNums (byteList_five a), bytesOf_strOfNums (byteList_five b)] at this
  exact five_inj ha hb this
theorem append_five_inj {x y : ByteArray} {a b : Int} (ha : idOk a = true) (hb : idOk b = true) (h : x ++ strOfNums (fiveBytes a) = y ++ strOfNums (fiveBytes b)) : a = b := by
  have := congrArg bytesOf h
  rw [bytesOf_append, bytesOf_append, bytesOf_strOfNums (byteList_five a), bytesOf_strOfNums (byteList_five b)] at this
  exact five_inj ha hb (List.append_inj_right' this rfl)
/-- An entry's id. -/
theorem entries_id {id : Int} {s : ByteArray} {l : List SPrp} {e : SEntry} (he : e ∈ entries id s l) : idOk id = true ∧ ∃ x, e.f1 = x ++ strOfNums (fiveBytes id) := by
  unfold entries at he
  split at he
  · rename_i hc
    have hi := (checkN_ok hc).1
    simp only [List.all_cons, List.all_nil, Bool.and_true] at hi
    refine ⟨hi, ?_⟩
    rcases List.mem_cons.1 he with rfl | he
    · exact ⟨⟨#[]⟩, by apply bytesOf_inj; rw [bytesOf_append]; rfl⟩
    · simp only [List.mem_map] at he
      obtain ⟨p, _, rfl⟩ := he
      exact ⟨_, rfl⟩
  · simp at he
theorem entries_apart {a b : Int} {s t : ByteArray} {l m : List SPrp} {e : SEntry} (h1 : e ∈ entries a s l) (h2 : e ∈ entries b t m) : a = b := by
  obtain ⟨i1, x, e1⟩ := entries_id h1
  obtain ⟨i2, y, e2⟩ := entries_id h2
  exact append_five_inj i1 i2 (e1.symm.trans e2)
theorem entries_length {id : Int} {s : ByteArray} {l : List SPrp} (h : checkN s l [id] = 0) : (entries id s l).length = l.length + 1 := by
  rw [entries, if_pos h]; simp
/-- Two edges from and to: alike just if the ends are one. -/
theorem edge_turn {a b : Int} (ha : idOk a = true) (hb : idOk b = true) (t : ByteArray) : (strOfNums (fiveBytes a) ++ strOfNums (fiveBytes b) ++ t = strOfNums (fiveBytes b) ++ strOfNums (fiveBytes a) ++ t) ↔ a = b := by
  refine ⟨fun h => ?_, fun h => by rw [h]⟩
  have := congrArg bytesOf h
  simp only [bytesOf_append, bytesOf_strOfNums (byteList_five a), bytesOf_strOfNums (byteList_five b), List.append_assoc] at this
  exact five_inj ha hb (List.append_inj_left this rfl)
end Go.Proofs.Ytonbnlfijmapfaa
