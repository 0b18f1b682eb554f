/- Texts of this proof, joined: W5, W6, L12, L13, L14, M16, W7, W8, O0, O2, L15, L16, L17. No condition. -/
import Derived.Test.YtonbnlfijmapfaaI4
import Derived.Test.YtonbnlfijmapfaaI2
import Derived.Test.YtonbnlfijmapfaaI1
import Derived.Test.YtonbnlfijmapfaaI3
import Derived.ProofKit
import Derived.Deep.Slices
import Derived.OpenShut
/- walk.New, Left, Spent; the laws' built. No condition but on sizes. -/
namespace Go.Proofs.Ytonbnlfijmapfaa
open Go.RowKit Go.Shelf Go.Proofs.YtonbnlfijmapfaaW.PrintWords
set_option linter.unusedVariables false
set_option linter.unusedSimpArgs false

theorem walk_Left_calls (wb g : Nat) (left : Int) (spent : Bool) (w : World) (h : WalkAt w wb g left spent) :
    Calls Try.prog 92 #[.pointer (some ⟨wb, 0, none⟩)] w fun e w' => e = .returned (.int .i64 left) ∧ w = w' := by
  have k := blk_cell h 1
  simp only [List.getElem?_toArray, List.getElem?_cons_zero, List.getElem?_cons_succ] at k
  go_enter Try.func92, Try.ntmps92
  go_wp2
  go_ret
  exact ⟨rfl, rfl⟩
theorem walk_Spent_calls (wb g : Nat) (left : Int) (spent : Bool) (w : World) (h : WalkAt w wb g left spent) :
    Calls Try.prog 57 #[.pointer (some ⟨wb, 0, none⟩)] w fun e w' => e = .returned (.bool spent) ∧ w = w' := by
  have k := blk_cell h 2
  simp only [List.getElem?_toArray, List.getElem?_cons_zero, List.getElem?_cons_succ] at k
  go_enter Try.func57, Try.ntmps57
  go_wp2
  go_ret
  exact ⟨rfl, rfl⟩
theorem walk_New_calls (g : Nat) (steps : Int) (w : World) (h0 : 0 ≤ steps) (h1 : steps ≤ 1073741824) :
    Calls Try.prog 54 #[.iface 80 (.pointer (some ⟨g, 0, none⟩)), .int .i64 steps] w fun e w' => ∃ wb, e = .returned (.tuple #[.pointer (some ⟨wb, 0, none⟩), .int .i64 0]) ∧ w.heap.size ≤ wb ∧ WalkAt w' wb g steps false ∧ Below w.heap.size w w' := by
  have h0' : ¬ steps < 0 := by omega
  have h1' : ¬ (1073741824 : Int) < steps := by omega
  go_enter Try.func54, Try.ntmps54
  go_wp2
  go_ret2
  exact ⟨w.heap.size, rfl, Nat.le_refl _, blk_new w _ _, below_al _ _⟩

/-- A graph and the document's, made anew. -/
def RetBuilt (w : World) (vs : List SVert) (es : List SEdg) (e : Ending) (w' : World) : Prop := ∃ g m1 m2 r A' c' B' d', e = .returned (.tuple #[.pointer (some ⟨g, 0, none⟩), .pointer (some ⟨r, 0, none⟩)]) ∧ GraphAt w' w.heap.size g m1 m2 vs es ∧ RefAt w' (fun k => k ≠ r) r A' c' B' d' vs es ∧ Below w.heap.size w w'

set_option maxRecDepth 100000 in
set_option maxHeartbeats 8000000 in
theorem law17_built_calls (A B : Option Addr) (c d : Nat) (vs : List SVert) (es : List SEdg) (w : World) (hv : kVert.C w A vs.length vs) (he : kEdg.C w B es.length es) (hiv : inV vs) (hie : inE es) (hn : vs.length ≤ 1000) (hm : es.length ≤ 1000) :
    Calls Try.prog 53 #[.agg #[.slice A vs.length c, .slice B es.length d]] w (RetBuilt w (layV [] vs) (layE (layV [] vs) [] es)) := by
  have HV := Lib.hid hv; clear hv
  have HE := Lib.hid he; clear he
  have HIV := Lib.hid hiv; clear hiv
  have HIE := Lib.hid hie; clear hie
  have HB0 := Lib.hid (below_al w (.cells #[.slice A vs.length c, .slice B es.length d] 88))
  have HP0 := Lib.hid (blk_new w #[.slice A vs.length c, .slice B es.length d] 88)
  go_enter Try.func53, Try.ntmps53
  go_wp2_with (go_at_call 47; refine (graph_New_calls _).mono ?_; rintro e w1 ⟨g, m1, m2, rfl, hG, hb⟩; have HG0 := Lib.hid (hG.lower HB0.out.size); have HB1 := Lib.hid (keepB0 hb HB0.out); have HP1 := Lib.hid (blk_below hb HP0.out); clear hG hb)
  go_loopw [5] (fun v5 wr => ∃ (k : Nat), k ≤ vs.length ∧ v5 = .int .i64 k ∧ Hid (GraphAt wr w.heap.size g m1 m2 (layV [] (vs.take k)) []) ∧ Hid (Below w.heap.size w wr) ∧ Hid (Blk wr w.heap.size #[.slice A vs.length c, .slice B es.length d] 88)) (fun v5 _ => vs.length - (intOf v5).toNat)
  case atStart => exact ⟨0, by omega, rfl, HG0, HB1, HP1⟩
  case round =>
    obtain ⟨k, hk, rfl, HG, HB, HP⟩ := hrel
    have kp0 := blk_cell HP.out 0
    have kp1 := blk_cell HP.out 1
    simp only [List.getElem?_toArray, List.getElem?_cons_zero, List.getElem?_cons_succ] at kp0 kp1
    by_cases hlt : k < vs.length
    · have hlt2 : (k : Int) < (vs.length : Int) := by omega
      obtain ⟨ad, A2, c2, rfl, g0, g1, g2, hle, hA⟩ := at_Vert (Kd.C_below HV.out HB.out) (k : Int) (by omega) (by omega)
      simp only [Int.toNat_natCast, rd_Vert] at g0 g1 g2 hA
      have HT := Lib.hid (take_more vs k zVert hlt)
      have hin := HIV.out (vs.getD k zVert) (by simp [List.getD_eq_getElem?_getD, List.getElem?_eq_getElem hlt])
      obtain ⟨⟨x0, x1, x2⟩, hx⟩ : ∃ q, vs.getD k zVert = q := ⟨_, rfl⟩
      rw [hx] at g0 g1 g2 hA HT hin
      clear hx hle
      simp only at g0 g1 g2 hA
      have hll := layV_length (vs.take k) []
      rw [List.length_take] at hll
      simp only [List.length_nil] at hll
      go_wp2_with (go_at_call 48; refine (graph_AddVertex_calls w.heap.size g m1 m2 _ [] x0 x1 A2 c2 x2 _ HG.out (Kd.C_below hA (Below.refl _ _)) hin.1 hin.2 (by omega)).mono ?_; rintro e w5 ⟨rfl, hG5, hb5⟩; have HG5 := Lib.hid hG5; have HB5 := Lib.hid (hb5.keep HB.out (fun k hk => by rw [hk]; exact HG.out.low.2.1) (Nat.le_refl _)); have HP5 := Lib.hid (hb5.blk HP.out (fun e => HG.out.vm.noCells _ _ (by rw [← e]; exact HP.out))); clear hG5 hb5)
      go_roundw
      case rel => exact ⟨k + 1, by omega, by go_num, Lib.hid (by rw [HT.out, layV_snoc]; exact HG5.out), HB5, HP5⟩
      case measure => simp [intOf]; omega
    · have hlt2 : ¬ (k : Int) < (vs.length : Int) := by omega
      have HG2 := Lib.hid (show GraphAt wr w.heap.size g m1 m2 (layV [] vs) [] from by have := HG.out; rwa [List.take_of_length_le (by omega)] at this)
      have HB2 := HB
      have HP2 := HP
      clear HG HB HP
      go_wp2
      go_loopw [6] (fun v6 wr => ∃ (k : Nat), k ≤ es.length ∧ v6 = .int .i64 k ∧ Hid (GraphAt wr w.heap.size g m1 m2 (layV [] vs) (layE (layV [] vs) [] (es.take k))) ∧ Hid (Below w.heap.size w wr) ∧ Hid (Blk wr w.heap.size #[.slice A vs.length c, .slice B es.length d] 88)) (fun v6 _ => es.length - (intOf v6).toNat)
      case atStart => exact ⟨0, by omega, rfl, HG2, HB2, HP2⟩
      case round =>
        obtain ⟨j, hj, rfl, HG, HB, HP⟩ := hrel
        have kp0 := blk_cell HP.out 0
        have kp1 := blk_cell HP.out 1
        simp only [List.getElem?_toArray, List.getElem?_cons_zero, List.getElem?_cons_succ] at kp0 kp1
        by_cases hlj : j < es.length
        · have hlj2 : (j : Int) < (es.length : Int) := by omega
          obtain ⟨ad, A2, c2, rfl, g0, g1, g2, g3, g4, hle, hA⟩ := at_Edg (Kd.C_below HE.out HB.out) (j : Int) (by omega) (by omega)
          simp only [Int.toNat_natCast, rd_Edg] at g0 g1 g2 g3 g4 hA
          have HT := Lib.hid (take_more es j zEdg hlj)
          have hin := HIE.out (es.getD j zEdg) (by simp [List.getD_eq_getElem?_getD, List.getElem?_eq_getElem hlj])
          obtain ⟨⟨x0, x1, x2, x3, x4⟩, hx⟩ : ∃ q, es.getD j zEdg = q := ⟨_, rfl⟩
          rw [hx] at g0 g1 g2 g3 g4 hA HT hin
          clear hx hle
          simp only at g0 g1 g2 g3 g4 hA
          have hll := layE_length (layV [] vs) (es.take j) []
          rw [List.length_take] at hll
          simp only [List.length_nil] at hll
          go_wp2_with (go_at_call 49; refine (graph_AddEdge_calls w.heap.size g m1 m2 _ _ x0 x1 x2 x3 A2 c2 x4 _ HG.out (Kd.C_below hA (Below.refl _ _)) hin.1 hin.2 (by omega)).mono ?_; rintro e w5 ⟨rfl, hG5, hb5⟩; have HG5 := Lib.hid hG5; have HB5 := Lib.hid (hb5.keep HB.out (fun k hk => by rw [hk]; exact HG.out.low.2.2) (Nat.le_refl _)); have HP5 := Lib.hid (hb5.blk HP.out (fun e => HG.out.em.noCells _ _ (by rw [← e]; exact HP.out))); clear hG5 hb5)
          go_roundw
          case rel => exact ⟨j + 1, by omega, by go_num, Lib.hid (by rw [HT.out, layE_snoc]; exact HG5.out), HB5, HP5⟩
          case measure => simp [intOf]; omega
        · have hlj2 : ¬ (j : Int) < (es.length : Int) := by omega
          have HG3 := Lib.hid (show GraphAt wr w.heap.size g m1 m2 (layV [] vs) (layE (layV [] vs) [] es) from by have := HG.out; rwa [List.take_of_length_le (by omega)] at this)
          have HBu := Lib.hid (ref17_Built_calls A B c d vs es wr (Kd.C_below HV.out HB.out) (Kd.C_below HE.out HB.out) HIV.out HIE.out hn hm)
          go_wp2_with (go_at_call 94; refine HBu.out.mono ?_; rintro e w6 ⟨r, A6, c6, B6, d6, rfl, hr, hR, hb⟩; have HR6 := Lib.hid hR; have HG6 := Lib.hid (HG3.out.below hb); have HB6 := Lib.hid (show Below w.heap.size w w6 from HB.out.trans (hb.mono HB.out.size)); clear hR hb)
          go_ret2
          exact ⟨g, m1, m2, r, A6, c6, B6, d6, rfl, HG6.out, HR6.out, HB6.out⟩

set_option maxRecDepth 100000 in
set_option maxHeartbeats 8000000 in
theorem law19_built_calls (A B : Option Addr) (c d : Nat) (vs : List SVert) (es : List SEdg) (w : World) (hv : kVert.C w A vs.length vs) (he : kEdg.C w B es.length es) (hiv : inV vs) (hie : inE es) (hn : vs.length ≤ 1000) (hm : es.length ≤ 1000) :
    Calls Try.prog 60 #[.agg #[.slice A vs.length c, .slice B es.length d]] w (RetBuilt w (layV [] vs) (layE (layV [] vs) [] es)) := by
  have HV := Lib.hid hv; clear hv
  have HE := Lib.hid he; clear he
  have HIV := Lib.hid hiv; clear hiv
  have HIE := Lib.hid hie; clear hie
  have HB0 := Lib.hid (below_al w (.cells #[.slice A vs.length c, .slice B es.length d] 99))
  have HP0 := Lib.hid (blk_new w #[.slice A vs.length c, .slice B es.length d] 99)
  go_enter Try.func60, Try.ntmps60
  go_wp2_with (go_at_call 47; refine (graph_New_calls _).mono ?_; rintro e w1 ⟨g, m1, m2, rfl, hG, hb⟩; have HG0 := Lib.hid (hG.lower HB0.out.size); have HB1 := Lib.hid (keepB0 hb HB0.out); have HP1 := Lib.hid (blk_below hb HP0.out); clear hG hb)
  go_loopw [5] (fun v5 wr => ∃ (k : Nat), k ≤ vs.length ∧ v5 = .int .i64 k ∧ Hid (GraphAt wr w.heap.size g m1 m2 (layV [] (vs.take k)) []) ∧ Hid (Below w.heap.size w wr) ∧ Hid (Blk wr w.heap.size #[.slice A vs.length c, .slice B es.length d] 99)) (fun v5 _ => vs.length - (intOf v5).toNat)
  case atStart => exact ⟨0, by omega, rfl, HG0, HB1, HP1⟩
  case round =>
    obtain ⟨k, hk, rfl, HG, HB, HP⟩ := hrel
    have kp0 := blk_cell HP.out 0
    have kp1 := blk_cell HP.out 1
    simp only [List.getElem?_toArray, List.getElem?_cons_zero, List.getElem?_cons_succ] at kp0 kp1
    by_cases hlt : k < vs.length
    · have hlt2 : (k : Int) < (vs.length : Int) := by omega
      obtain ⟨ad, A2, c2, rfl, g0, g1, g2, hle, hA⟩ := at_Vert (Kd.C_below HV.out HB.out) (k : Int) (by omega) (by omega)
      simp only [Int.toNat_natCast, rd_Vert] at g0 g1 g2 hA
      have HT := Lib.hid (take_more vs k zVert hlt)
      have hin := HIV.out (vs.getD k zVert) (by simp [List.getD_eq_getElem?_getD, List.getElem?_eq_getElem hlt])
      obtain ⟨⟨x0, x1, x2⟩, hx⟩ : ∃ q, vs.getD k zVert = q := ⟨_, rfl⟩
      rw [hx] at g0 g1 g2 hA HT hin
      clear hx hle
      simp only at g0 g1 g2 hA
      have hll := layV_length (vs.take k) []
      rw [List.length_take] at hll
      simp only [List.length_nil] at hll
      go_wp2_with (go_at_call 48; refine (graph_AddVertex_calls w.heap.size g m1 m2 _ [] x0 x1 A2 c2 x2 _ HG.out (Kd.C_below hA (Below.refl _ _)) hin.1 hin.2 (by omega)).mono ?_; rintro e w5 ⟨rfl, hG5, hb5⟩; have HG5 := Lib.hid hG5; have HB5 := Lib.hid (hb5.keep HB.out (fun k hk => by rw [hk]; exact HG.out.low.2.1) (Nat.le_refl _)); have HP5 := Lib.hid (hb5.blk HP.out (fun e => HG.out.vm.noCells _ _ (by rw [← e]; exact HP.out))); clear hG5 hb5)
      go_roundw
      case rel => exact ⟨k + 1, by omega, by go_num, Lib.hid (by rw [HT.out, layV_snoc]; exact HG5.out), HB5, HP5⟩
      case measure => simp [intOf]; omega
    · have hlt2 : ¬ (k : Int) < (vs.length : Int) := by omega
      have HG2 := Lib.hid (show GraphAt wr w.heap.size g m1 m2 (layV [] vs) [] from by have := HG.out; rwa [List.take_of_length_le (by omega)] at this)
      have HB2 := HB
      have HP2 := HP
      clear HG HB HP
      go_wp2
      go_loopw [6] (fun v6 wr => ∃ (k : Nat), k ≤ es.length ∧ v6 = .int .i64 k ∧ Hid (GraphAt wr w.heap.size g m1 m2 (layV [] vs) (layE (layV [] vs) [] (es.take k))) ∧ Hid (Below w.heap.size w wr) ∧ Hid (Blk wr w.heap.size #[.slice A vs.length c, .slice B es.length d] 99)) (fun v6 _ => es.length - (intOf v6).toNat)
      case atStart => exact ⟨0, by omega, rfl, HG2, HB2, HP2⟩
      case round =>
        obtain ⟨j, hj, rfl, HG, HB, HP⟩ := hrel
        have kp0 := blk_cell HP.out 0
        have kp1 := blk_cell HP.out 1
        simp only [List.getElem?_toArray, List.getElem?_cons_zero, List.getElem?_cons_succ] at kp0 kp1
        by_cases hlj : j < es.length
        · have hlj2 : (j : Int) < (es.length : Int) := by omega
          obtain ⟨ad, A2, c2, rfl, g0, g1, g2, g3, g4, hle, hA⟩ := at_Edg (Kd.C_below HE.out HB.out) (j : Int) (by omega) (by omega)
          simp only [Int.toNat_natCast, rd_Edg] at g0 g1 g2 g3 g4 hA
          have HT := Lib.hid (take_more es j zEdg hlj)
          have hin := HIE.out (es.getD j zEdg) (by simp [List.getD_eq_getElem?_getD, List.getElem?_eq_getElem hlj])
          obtain ⟨⟨x0, x1, x2, x3, x4⟩, hx⟩ : ∃ q, es.getD j zEdg = q := ⟨_, rfl⟩
          rw [hx] at g0 g1 g2 g3 g4 hA HT hin
          clear hx hle
          simp only at g0 g1 g2 g3 g4 hA
          have hll := layE_length (layV [] vs) (es.take j) []
          rw [List.length_take] at hll
          simp only [List.length_nil] at hll
          go_wp2_with (go_at_call 49; refine (graph_AddEdge_calls w.heap.size g m1 m2 _ _ x0 x1 x2 x3 A2 c2 x4 _ HG.out (Kd.C_below hA (Below.refl _ _)) hin.1 hin.2 (by omega)).mono ?_; rintro e w5 ⟨rfl, hG5, hb5⟩; have HG5 := Lib.hid hG5; have HB5 := Lib.hid (hb5.keep HB.out (fun k hk => by rw [hk]; exact HG.out.low.2.2) (Nat.le_refl _)); have HP5 := Lib.hid (hb5.blk HP.out (fun e => HG.out.em.noCells _ _ (by rw [← e]; exact HP.out))); clear hG5 hb5)
          go_roundw
          case rel => exact ⟨j + 1, by omega, by go_num, Lib.hid (by rw [HT.out, layE_snoc]; exact HG5.out), HB5, HP5⟩
          case measure => simp [intOf]; omega
        · have hlj2 : ¬ (j : Int) < (es.length : Int) := by omega
          have HG3 := Lib.hid (show GraphAt wr w.heap.size g m1 m2 (layV [] vs) (layE (layV [] vs) [] es) from by have := HG.out; rwa [List.take_of_length_le (by omega)] at this)
          have HBu := Lib.hid (ref17_Built_calls A B c d vs es wr (Kd.C_below HV.out HB.out) (Kd.C_below HE.out HB.out) HIV.out HIE.out hn hm)
          go_wp2_with (go_at_call 94; refine HBu.out.mono ?_; rintro e w6 ⟨r, A6, c6, B6, d6, rfl, hr, hR, hb⟩; have HR6 := Lib.hid hR; have HG6 := Lib.hid (HG3.out.below hb); have HB6 := Lib.hid (show Below w.heap.size w w6 from HB.out.trans (hb.mono HB.out.size)); clear hR hb)
          go_ret2
          exact ⟨g, m1, m2, r, A6, c6, B6, d6, rfl, HG6.out, HR6.out, HB6.out⟩

end Go.Proofs.Ytonbnlfijmapfaa
/- The laws' small. No condition. -/
namespace Go.Proofs.Ytonbnlfijmapfaa
open Go.RowKit Go.Shelf Go.Proofs.YtonbnlfijmapfaaW.PrintWords
set_option linter.unusedVariables false
set_option linter.unusedSimpArgs false

def smV (x : SVert) : Bool := decide (x.f2.length ≤ 20) && decide (x.f1.size ≤ 100)
def smE (x : SEdg) : Bool := decide (x.f4.length ≤ 20) && decide (x.f1.size ≤ 100)
/-- Not too great: at most n vertices. -/
def smallP (n : Nat) (vs : List SVert) (es : List SEdg) : Bool := (decide (vs.length ≤ n) && decide (es.length ≤ 60)) && (vs.all smV && es.all smE)

set_option maxRecDepth 100000 in
set_option maxHeartbeats 8000000 in
theorem law17_small_calls (A B : Option Addr) (c d : Nat) (vs : List SVert) (es : List SEdg) (w : World) (hv : kVert.C w A vs.length vs) (he : kEdg.C w B es.length es) :
    Calls Try.prog 52 #[.agg #[.slice A vs.length c, .slice B es.length d]] w fun e w' => e = .returned (.bool (smallP 40 vs es)) ∧ Below w.heap.size w w' := by
  have HV := Lib.hid (Kd.C_alloc hv (.cells #[.slice A vs.length c, .slice B es.length d] 88)); clear hv
  have HE := Lib.hid (Kd.C_alloc he (.cells #[.slice A vs.length c, .slice B es.length d] 88)); clear he
  have HB := Lib.hid (below_al w (.cells #[.slice A vs.length c, .slice B es.length d] 88))
  have kp0 := blk_cell (blk_new w #[.slice A vs.length c, .slice B es.length d] 88) 0
  have kp1 := blk_cell (blk_new w #[.slice A vs.length c, .slice B es.length d] 88) 1
  simp only [List.getElem?_toArray, List.getElem?_cons_zero, List.getElem?_cons_succ] at kp0 kp1
  have hm := Kd.C_max HV.out
  have hm2 := Kd.C_max HE.out
  by_cases h1 : vs.length ≤ 40
  · have h1' : ¬ (40 : Int) < (vs.length : Int) := by omega
    by_cases h2 : es.length ≤ 60
    · have h2' : ¬ (60 : Int) < (es.length : Int) := by omega
      go_enter Try.func52, Try.ntmps52
      go_wp2
      generalize w.alloc (.cells #[.slice A vs.length c, .slice B es.length d] 88) = w1 at HV HE HB kp0 kp1 ⊢
      go_loopw [3] (fun v3 wr => ∃ (k : Nat), k ≤ vs.length ∧ v3 = .int .i64 k ∧ wr = w1 ∧ Hid ((vs.drop k).all smV = vs.all smV)) (fun v3 _ => vs.length - (intOf v3).toNat)
      case atStart => exact ⟨0, by omega, rfl, rfl, Lib.hid rfl⟩
      case round =>
        obtain ⟨k, hk, rfl, rfl, HT⟩ := hrel
        by_cases hlt : k < vs.length
        · have hlt2 : (k : Int) < (vs.length : Int) := by omega
          obtain ⟨ad, A2, c2, rfl, g0, g1, g2, hle, hA⟩ := at_Vert HV.out (k : Int) (by omega) (by omega)
          simp only [Int.toNat_natCast, rd_Vert] at g0 g1 g2 hA
          have HD := Lib.hid (drop_cons vs k zVert hlt)
          obtain ⟨⟨x0, x1, x2⟩, hx⟩ : ∃ q, vs.getD k zVert = q := ⟨_, rfl⟩
          rw [hx] at g0 g1 g2 hA HD
          clear hx hle hA
          simp only at g0 g1 g2
          by_cases e1 : x2.length ≤ 20
          · have e1' : ¬ (20 : Int) < (x2.length : Int) := by omega
            by_cases e2 : x1.size ≤ 100
            · have e2' : ¬ (100 : Int) < (x1.size : Int) := by omega
              go_wp2
              go_roundw
              case rel => exact ⟨k + 1, by omega, by go_num, by trivial, Lib.hid (by rw [← HT.out, HD.out, List.all_cons]; simp [smV, e1, e2])⟩
              case measure => simp [intOf]; omega
            · have e2' : (100 : Int) < (x1.size : Int) := by omega
              go_wp2
              go_ret
              exact ⟨ret_bool (by rw [smallP, ← HT.out, HD.out, List.all_cons]; simp [smV, e2]), HB.out⟩
          · have e1' : (20 : Int) < (x2.length : Int) := by omega
            go_wp2
            go_ret
            exact ⟨ret_bool (by rw [smallP, ← HT.out, HD.out, List.all_cons]; simp [smV, e1]), HB.out⟩
        · have hlt2 : ¬ (k : Int) < (vs.length : Int) := by omega
          have HAV : Hid (vs.all smV = true) := Lib.hid (by rw [← HT.out, List.drop_eq_nil_of_le (by omega)]; rfl)
          go_wp2
          go_loopw [4] (fun v4 wz => ∃ (k : Nat), k ≤ es.length ∧ v4 = .int .i64 k ∧ wz = wr ∧ Hid ((es.drop k).all smE = es.all smE)) (fun v4 _ => es.length - (intOf v4).toNat)
          case atStart => exact ⟨0, by omega, rfl, rfl, Lib.hid rfl⟩
          case round =>
            obtain ⟨j, hj, rfl, rfl, HT2⟩ := hrel
            by_cases hlj : j < es.length
            · have hlj2 : (j : Int) < (es.length : Int) := by omega
              obtain ⟨ad, A2, c2, rfl, g0, g1, g2, g3, g4, hle, hA⟩ := at_Edg HE.out (j : Int) (by omega) (by omega)
              simp only [Int.toNat_natCast, rd_Edg] at g0 g1 g2 g3 g4 hA
              have HD := Lib.hid (drop_cons es j zEdg hlj)
              obtain ⟨⟨x0, x1, x2, x3, x4⟩, hx⟩ : ∃ q, es.getD j zEdg = q := ⟨_, rfl⟩
              rw [hx] at g0 g1 g2 g3 g4 hA HD
              clear hx hle hA
              simp only at g0 g1 g2 g3 g4
              by_cases e1 : x4.length ≤ 20
              · have e1' : ¬ (20 : Int) < (x4.length : Int) := by omega
                by_cases e2 : x1.size ≤ 100
                · have e2' : ¬ (100 : Int) < (x1.size : Int) := by omega
                  go_wp2
                  go_roundw
                  case rel => exact ⟨j + 1, by omega, by go_num, by trivial, Lib.hid (by rw [← HT2.out, HD.out, List.all_cons]; simp [smE, e1, e2])⟩
                  case measure => simp [intOf]; omega
                · have e2' : (100 : Int) < (x1.size : Int) := by omega
                  go_wp2
                  go_ret
                  exact ⟨ret_bool (by rw [smallP, ← HT2.out, HD.out, List.all_cons]; simp [smE, e2]), HB.out⟩
              · have e1' : (20 : Int) < (x4.length : Int) := by omega
                go_wp2
                go_ret
                exact ⟨ret_bool (by rw [smallP, ← HT2.out, HD.out, List.all_cons]; simp [smE, e1]), HB.out⟩
            · have hlj2 : ¬ (j : Int) < (es.length : Int) := by omega
              go_wp2
              go_ret
              exact ⟨ret_bool (by rw [smallP, HAV.out, ← HT2.out, List.drop_eq_nil_of_le (by omega)]; simp [h1, h2]), HB.out⟩
    · have h2' : (60 : Int) < (es.length : Int) := by omega
      go_enter Try.func52, Try.ntmps52
      go_wp2
      go_ret
      exact ⟨ret_bool (by simp [smallP, h2]), HB.out⟩
  · have h1' : (40 : Int) < (vs.length : Int) := by omega
    go_enter Try.func52, Try.ntmps52
    go_wp2
    go_ret
    exact ⟨ret_bool (by simp [smallP, h1]), HB.out⟩

set_option maxRecDepth 100000 in
set_option maxHeartbeats 8000000 in
theorem law19_small_calls (A B : Option Addr) (c d : Nat) (vs : List SVert) (es : List SEdg) (w : World) (hv : kVert.C w A vs.length vs) (he : kEdg.C w B es.length es) :
    Calls Try.prog 59 #[.agg #[.slice A vs.length c, .slice B es.length d]] w fun e w' => e = .returned (.bool (smallP 20 vs es)) ∧ Below w.heap.size w w' := by
  have HV := Lib.hid (Kd.C_alloc hv (.cells #[.slice A vs.length c, .slice B es.length d] 99)); clear hv
  have HE := Lib.hid (Kd.C_alloc he (.cells #[.slice A vs.length c, .slice B es.length d] 99)); clear he
  have HB := Lib.hid (below_al w (.cells #[.slice A vs.length c, .slice B es.length d] 99))
  have kp0 := blk_cell (blk_new w #[.slice A vs.length c, .slice B es.length d] 99) 0
  have kp1 := blk_cell (blk_new w #[.slice A vs.length c, .slice B es.length d] 99) 1
  simp only [List.getElem?_toArray, List.getElem?_cons_zero, List.getElem?_cons_succ] at kp0 kp1
  have hm := Kd.C_max HV.out
  have hm2 := Kd.C_max HE.out
  by_cases h1 : vs.length ≤ 20
  · have h1' : ¬ (20 : Int) < (vs.length : Int) := by omega
    by_cases h2 : es.length ≤ 60
    · have h2' : ¬ (60 : Int) < (es.length : Int) := by omega
      go_enter Try.func59, Try.ntmps59
      go_wp2
      generalize w.alloc (.cells #[.slice A vs.length c, .slice B es.length d] 99) = w1 at HV HE HB kp0 kp1 ⊢
      go_loopw [3] (fun v3 wr => ∃ (k : Nat), k ≤ vs.length ∧ v3 = .int .i64 k ∧ wr = w1 ∧ Hid ((vs.drop k).all smV = vs.all smV)) (fun v3 _ => vs.length - (intOf v3).toNat)
      case atStart => exact ⟨0, by omega, rfl, rfl, Lib.hid rfl⟩
      case round =>
        obtain ⟨k, hk, rfl, rfl, HT⟩ := hrel
        by_cases hlt : k < vs.length
        · have hlt2 : (k : Int) < (vs.length : Int) := by omega
          obtain ⟨ad, A2, c2, rfl, g0, g1, g2, hle, hA⟩ := at_Vert HV.out (k : Int) (by omega) (by omega)
          simp only [Int.toNat_natCast, rd_Vert] at g0 g1 g2 hA
          have HD := Lib.hid (drop_cons vs k zVert hlt)
          obtain ⟨⟨x0, x1, x2⟩, hx⟩ : ∃ q, vs.getD k zVert = q := ⟨_, rfl⟩
          rw [hx] at g0 g1 g2 hA HD
          clear hx hle hA
          simp only at g0 g1 g2
          by_cases e1 : x2.length ≤ 20
          · have e1' : ¬ (20 : Int) < (x2.length : Int) := by omega
            by_cases e2 : x1.size ≤ 100
            · have e2' : ¬ (100 : Int) < (x1.size : Int) := by omega
              go_wp2
              go_roundw
              case rel => exact ⟨k + 1, by omega, by go_num, by trivial, Lib.hid (by rw [← HT.out, HD.out, List.all_cons]; simp [smV, e1, e2])⟩
              case measure => simp [intOf]; omega
            · have e2' : (100 : Int) < (x1.size : Int) := by omega
              go_wp2
              go_ret
              exact ⟨ret_bool (by rw [smallP, ← HT.out, HD.out, List.all_cons]; simp [smV, e2]), HB.out⟩
          · have e1' : (20 : Int) < (x2.length : Int) := by omega
            go_wp2
            go_ret
            exact ⟨ret_bool (by rw [smallP, ← HT.out, HD.out, List.all_cons]; simp [smV, e1]), HB.out⟩
        · have hlt2 : ¬ (k : Int) < (vs.length : Int) := by omega
          have HAV : Hid (vs.all smV = true) := Lib.hid (by rw [← HT.out, List.drop_eq_nil_of_le (by omega)]; rfl)
          go_wp2
          go_loopw [4] (fun v4 wz => ∃ (k : Nat), k ≤ es.length ∧ v4 = .int .i64 k ∧ wz = wr ∧ Hid ((es.drop k).all smE = es.all smE)) (fun v4 _ => es.length - (intOf v4).toNat)
          case atStart => exact ⟨0, by omega, rfl, rfl, Lib.hid rfl⟩
          case round =>
            obtain ⟨j, hj, rfl, rfl, HT2⟩ := hrel
            by_cases hlj : j < es.length
            · have hlj2 : (j : Int) < (es.length : Int) := by omega
              obtain ⟨ad, A2, c2, rfl, g0, g1, g2, g3, g4, hle, hA⟩ := at_Edg HE.out (j : Int) (by omega) (by omega)
              simp only [Int.toNat_natCast, rd_Edg] at g0 g1 g2 g3 g4 hA
              have HD := Lib.hid (drop_cons es j zEdg hlj)
              obtain ⟨⟨x0, x1, x2, x3, x4⟩, hx⟩ : ∃ q, es.getD j zEdg = q := ⟨_, rfl⟩
              rw [hx] at g0 g1 g2 g3 g4 hA HD
              clear hx hle hA
              simp only at g0 g1 g2 g3 g4
              by_cases e1 : x4.length ≤ 20
              · have e1' : ¬ (20 : Int) < (x4.length : Int) := by omega
                by_cases e2 : x1.size ≤ 100
                · have e2' : ¬ (100 : Int) < (x1.size : Int) := by omega
                  go_wp2
                  go_roundw
                  case rel => exact ⟨j + 1, by omega, by go_num, by trivial, Lib.hid (by rw [← HT2.out, HD.out, List.all_cons]; simp [smE, e1, e2])⟩
                  case measure => simp [intOf]; omega
                · have e2' : (100 : Int) < (x1.size : Int) := by omega
                  go_wp2
                  go_ret
                  exact ⟨ret_bool (by rw [smallP, ← HT2.out, HD.out, List.all_cons]; simp [smE, e2]), HB.out⟩
              · have e1' : (20 : Int) < (x4.length : Int) := by omega
                go_wp2
                go_ret
                exact ⟨ret_bool (by rw [smallP, ← HT2.out, HD.out, List.all_cons]; simp [smE, e1]), HB.out⟩
            · have hlj2 : ¬ (j : Int) < (es.length : Int) := by omega
              go_wp2
              go_ret
              exact ⟨ret_bool (by rw [smallP, HAV.out, ← HT2.out, List.drop_eq_nil_of_le (by omega)]; simp [h1, h2]), HB.out⟩
    · have h2' : (60 : Int) < (es.length : Int) := by omega
      go_enter Try.func59, Try.ntmps59
      go_wp2
      go_ret
      exact ⟨ret_bool (by simp [smallP, h2]), HB.out⟩
  · have h1' : (20 : Int) < (vs.length : Int) := by omega
    go_enter Try.func59, Try.ntmps59
    go_wp2
    go_ret
    exact ⟨ret_bool (by simp [smallP, h1]), HB.out⟩

end Go.Proofs.Ytonbnlfijmapfaa
/- web.EdgeText. -/
namespace Go.Proofs.Ytonbnlfijmapfaa
open Go.RowKit Go.Shelf Go.Proofs.YtonbnlfijmapfaaW.PrintWords
set_option linter.unusedVariables false
set_option linter.unusedSimpArgs false

theorem five_size (n : Int) : (strOfNums (fiveBytes n)).size = 5 := strOfNums_size _
theorem body_size {s : ByteArray} {l : List SPrp} (hs : s.size ≤ 2000000) (hr : propsRight l = true) (hf : fits l) : (bodyText s l).size ≤ 60000000 := by
  have h1 := propsBytes_size hr hf
  simp only [bodyText, ByteArray.size_append, strOfNums_size, List.length_cons, List.length_nil]
  omega
/-- An edge's text. -/
def edgeText (id : Int) (label : ByteArray) (x y : Int) (ps : List SPrp) : ByteArray := if checkN label ps [id, x, y] = 0 then strOfNums (fiveBytes x) ++ strOfNums (fiveBytes y) ++ bodyText label ps else ⟨#[]⟩
set_option maxRecDepth 100000 in
set_option maxHeartbeats 2000000 in
theorem web_EdgeText_calls (id : Int) (s : ByteArray) (x y : Int) (A : Option Addr) (c : Nat) (l : List SPrp) (w : World) (hs : s.size ≤ 2000000) (h : kPrp.C w A l.length l) (hf : fits l) (hg : ranged l) :
    Calls Try.prog 19 #[.agg #[.int .i64 id, .string s, .int .i64 x, .int .i64 y, .slice A l.length c]] w fun e w' => e = .returned (.tuple #[.string (edgeText id s x y l), .int .i64 (checkN s l [id, x, y])]) ∧ Below w.heap.size w w' := by
  have HX := Lib.hid h; clear h
  have HF := Lib.hid hf; clear hf
  have HG := Lib.hid hg; clear hg
  by_cases hc : checkN s l [id, x, y] = 0
  · have hr := (checkN_ok hc).2.2
    have z1 := five_size x
    have z2 := five_size y
    have z3 := body_size hs hr HF.out
    go_enter Try.func19, Try.ntmps19
    go_wp2_with (first
      | (go_at_call 46; refine (graph_Check_calls _ _ _ _ 3 l [id, x, y] _ hs ?hP HF.out ?hI).mono ?_; (case hP => exact Kd.C_below HX.out (keepB0 (below_al _ _) (below_al w _))); (case hI => exact C_boxesg (by simp) [id, x, y] .i64 (by simp)); rw [hc]; rintro e w1 ⟨rfl, hb1⟩; have K1 := Lib.hid (blk_below hb1 (blk_alloc (blk_new w #[.int .i64 id, .string s, .int .i64 x, .int .i64 y, .slice A l.length c] 35) _)); have HB1 := Lib.hid (keepB0 hb1 (keepB0 (below_al _ _) (below_al w _))); clear hb1))
    refine wp_region_held_drew (S := (fun w' => Blk w' w.heap.size #[.int .i64 id, .string s, .int .i64 x, .int .i64 y, .slice A l.length c] 35 ∧ Below w.heap.size w w')) (by kernel_rfl) ?hS101 (fun hH0 => ?_)
    case hS101 => exact ⟨blk_drew K1.out, below_drew HB1.out⟩
    refine takeY (oi := { dst := some 20, op := Op.fieldAddr 35 (Operand.tmp 1) 2, type := 0, pos := "web.go:127", after := #[], guard := none }) 0 (some 20) (v := ?v0_102) rfl rfl (by kernel_rfl) (by kernel_rfl) (by kernel_rfl) (fun _ _ _ h => h) (by kernel_rfl) ?hy102 hH0 ?_
    case hy102 => (intro w_ hSw; (try dsimp only at hSw); go_simp; (first | done | with_reducible rfl | rw [if_neg (by omega)]))
    simp only [Act.put, List.setIfInBounds_toArray, List.set_cons_zero, List.set_cons_succ]
    refine takeY (oi := { dst := some 21, op := Op.load 3 (Operand.tmp 20), type := 3, pos := "web.go:127", after := #[{ on := 0, ground := Ground.data }], guard := none }) 1 (some 21) (v := ?v1_103) rfl rfl (by kernel_rfl) (by kernel_rfl) (by kernel_rfl) (fun _ _ _ h => h) (by kernel_rfl) ?hy103 hH0 ?_
    case hy103 => (intro w_ hSw; (try dsimp only at hSw); (have hc := blk_cell hSw.1 2; go_simp; (first | done | with_reducible rfl)))
    simp only [Act.put, List.setIfInBounds_toArray, List.set_cons_zero, List.set_cons_succ]
    refine takeY (oi := { dst := some 23, op := Op.fieldAddr 35 (Operand.tmp 1) 3, type := 0, pos := "web.go:127", after := #[], guard := none }) 3 (some 23) (v := ?v3_104) rfl rfl (by kernel_rfl) (by kernel_rfl) (by kernel_rfl) (fun _ _ _ h => h) (by kernel_rfl) ?hy104 hH0 ?_
    case hy104 => (intro w_ hSw; (try dsimp only at hSw); go_simp; (first | done | with_reducible rfl | rw [if_neg (by omega)]))
    simp only [Act.put, List.setIfInBounds_toArray, List.set_cons_zero, List.set_cons_succ]
    refine takeY (oi := { dst := some 24, op := Op.load 3 (Operand.tmp 23), type := 3, pos := "web.go:127", after := #[{ on := 3, ground := Ground.data }], guard := none }) 4 (some 24) (v := ?v4_105) rfl rfl (by kernel_rfl) (by kernel_rfl) (by kernel_rfl) (fun _ _ _ h => h) (by kernel_rfl) ?hy105 hH0 ?_
    case hy105 => (intro w_ hSw; (try dsimp only at hSw); (have hc := blk_cell hSw.1 3; go_simp; (first | done | with_reducible rfl)))
    simp only [Act.put, List.setIfInBounds_toArray, List.set_cons_zero, List.set_cons_succ]
    refine takeY (oi := { dst := some 27, op := Op.fieldAddr 35 (Operand.tmp 1) 1, type := 0, pos := "web.go:127", after := #[], guard := none }) 7 (some 27) (v := ?v7_106) rfl rfl (by kernel_rfl) (by kernel_rfl) (by kernel_rfl) (fun _ _ _ h => h) (by kernel_rfl) ?hy106 hH0 ?_
    case hy106 => (intro w_ hSw; (try dsimp only at hSw); go_simp; (first | done | with_reducible rfl | rw [if_neg (by omega)]))
    simp only [Act.put, List.setIfInBounds_toArray, List.set_cons_zero, List.set_cons_succ]
    refine takeY (oi := { dst := some 28, op := Op.load 9 (Operand.tmp 27), type := 9, pos := "web.go:127", after := #[{ on := 7, ground := Ground.data }], guard := none }) 8 (some 28) (v := ?v8_107) rfl rfl (by kernel_rfl) (by kernel_rfl) (by kernel_rfl) (fun _ _ _ h => h) (by kernel_rfl) ?hy107 hH0 ?_
    case hy107 => (intro w_ hSw; (try dsimp only at hSw); (have hc := blk_cell hSw.1 1; go_simp; (first | done | with_reducible rfl)))
    simp only [Act.put, List.setIfInBounds_toArray, List.set_cons_zero, List.set_cons_succ]
    refine takeY (oi := { dst := some 29, op := Op.fieldAddr 35 (Operand.tmp 1) 4, type := 0, pos := "web.go:127", after := #[], guard := none }) 9 (some 29) (v := ?v9_108) rfl rfl (by kernel_rfl) (by kernel_rfl) (by kernel_rfl) (fun _ _ _ h => h) (by kernel_rfl) ?hy108 hH0 ?_
    case hy108 => (intro w_ hSw; (try dsimp only at hSw); go_simp; (first | done | with_reducible rfl | rw [if_neg (by omega)]))
    simp only [Act.put, List.setIfInBounds_toArray, List.set_cons_zero, List.set_cons_succ]
    refine takeY (oi := { dst := some 30, op := Op.load 22 (Operand.tmp 29), type := 22, pos := "web.go:127", after := #[{ on := 9, ground := Ground.data }], guard := none }) 10 (some 30) (v := ?v10_109) rfl rfl (by kernel_rfl) (by kernel_rfl) (by kernel_rfl) (fun _ _ _ h => h) (by kernel_rfl) ?hy109 hH0 ?_
    case hy109 => (intro w_ hSw; (try dsimp only at hSw); (have hc := blk_cell hSw.1 4; go_simp; (first | done | with_reducible rfl)))
    simp only [Act.put, List.setIfInBounds_toArray, List.set_cons_zero, List.set_cons_succ]
    refine wpAnyH_ready (rs := [2]) (by kernel_rfl) (by simp) ?_
    refine AllReadyH.cons (o := { dst := some 22, op := Op.call { callee := Callee.value (Operand.func 71), args := #[Operand.tmp 21], argTypes := #[3] }, type := 9, pos := "web.go:127", after := #[{ on := 1, ground := Ground.data }], guard := none }) rfl (fun K1 hK1 => ?_) AllReadyH.nil
    go_simp; refine (web_five_calls _ _).mono ?_; rintro e w2 ⟨rfl, hb2⟩
    refine hK1.out _ _ ?hS110 (fun hH1 => ?_)
    case hS110 => ((try dsimp only); (exact ⟨blk_below hb2 hH0.1, keepB0 hb2 hH0.2⟩))
    clear hK1 K1
    (try clear hH0)
    (try simp only [Act.put, List.setIfInBounds_toArray, List.set_cons_zero, List.set_cons_succ])
    refine wpAnyH_ready (rs := [5]) (by kernel_rfl) (by simp) ?_
    refine AllReadyH.cons (o := { dst := some 25, op := Op.call { callee := Callee.value (Operand.func 71), args := #[Operand.tmp 24], argTypes := #[3] }, type := 9, pos := "web.go:127", after := #[{ on := 4, ground := Ground.data }, { on := 2, ground := Ground.chain }], guard := none }) rfl (fun K2 hK2 => ?_) AllReadyH.nil
    go_simp; refine (web_five_calls _ _).mono ?_; rintro e w3 ⟨rfl, hb3⟩
    refine hK2.out _ _ ?hS111 (fun hH2 => ?_)
    case hS111 => ((try dsimp only); (exact ⟨blk_below hb3 hH1.1, keepB0 hb3 hH1.2⟩))
    clear hK2 K2
    (try clear hH1)
    (try simp only [Act.put, List.setIfInBounds_toArray, List.set_cons_zero, List.set_cons_succ])
    refine takeY (oi := { dst := some 26, op := Op.binOp BinOp.add 9 (Operand.tmp 22) (Operand.tmp 25) 9, type := 9, pos := "web.go:127", after := #[{ on := 2, ground := Ground.data }, { on := 5, ground := Ground.data }], guard := none }) 6 (some 26) (v := ?v6_112) rfl rfl (by kernel_rfl) (by kernel_rfl) (by kernel_rfl) (fun _ _ _ h => h) (by kernel_rfl) ?hy112 hH2 ?_
    case hy112 => (intro w_ hSw; (try dsimp only at hSw); go_simp; (first | done | with_reducible rfl | rw [if_neg (by omega)]))
    simp only [Act.put, List.setIfInBounds_toArray, List.set_cons_zero, List.set_cons_succ]
    refine wpAnyH_ready (rs := [11]) (by kernel_rfl) (by simp) ?_
    refine AllReadyH.cons (o := { dst := some 31, op := Op.call { callee := Callee.value (Operand.func 69), args := #[Operand.tmp 28, Operand.tmp 30], argTypes := #[9, 22] }, type := 9, pos := "web.go:127", after := #[{ on := 8, ground := Ground.data }, { on := 10, ground := Ground.data }, { on := 5, ground := Ground.chain }], guard := none }) rfl (fun K3 hK3 => ?_) AllReadyH.nil
    go_simp; refine (web_text_calls _ _ _ _ _ hs (Kd.C_below HX.out hH2.2) HF.out HG.out hr).mono ?_; rintro e w4 ⟨rfl, hb4⟩
    refine hK3.out _ _ ?hS113 (fun hH3 => ?_)
    case hS113 => ((try dsimp only); (exact ⟨blk_below hb4 hH2.1, keepB0 hb4 hH2.2⟩))
    clear hK3 K3
    (try clear hH2)
    (try simp only [Act.put, List.setIfInBounds_toArray, List.set_cons_zero, List.set_cons_succ])
    refine takeY (oi := { dst := some 32, op := Op.binOp BinOp.add 9 (Operand.tmp 26) (Operand.tmp 31) 9, type := 9, pos := "web.go:127", after := #[{ on := 6, ground := Ground.data }, { on := 11, ground := Ground.data }], guard := none }) 12 (some 32) (v := ?v12_114) rfl rfl (by kernel_rfl) (by kernel_rfl) (by kernel_rfl) (fun _ _ _ h => h) (by kernel_rfl) ?hy114 hH3 ?_
    case hy114 => (intro w_ hSw; (try dsimp only at hSw); go_simp; (first | done | with_reducible rfl | rw [if_neg (by omega)]))
    simp only [Act.put, List.setIfInBounds_toArray, List.set_cons_zero, List.set_cons_succ]
    refine takeY (oi := { dst := some 2, op := Op.assign (Operand.tmp 32), type := 9, pos := "web.go:127", after := #[{ on := 12, ground := Ground.data }, { on := 11, ground := Ground.chain }, { on := 0, ground := Ground.phase }, { on := 1, ground := Ground.phase }, { on := 2, ground := Ground.phase }, { on := 3, ground := Ground.phase }, { on := 4, ground := Ground.phase }, { on := 5, ground := Ground.phase }, { on := 6, ground := Ground.phase }, { on := 7, ground := Ground.phase }, { on := 8, ground := Ground.phase }, { on := 9, ground := Ground.phase }, { on := 10, ground := Ground.phase }, { on := 11, ground := Ground.phase }, { on := 12, ground := Ground.phase }], guard := none }) 13 (some 2) (v := ?v13_115) rfl rfl (by kernel_rfl) (by kernel_rfl) (by kernel_rfl) (fun _ _ _ h => h) (by kernel_rfl) ?hy115 hH3 ?_
    case hy115 => (intro w_ hSw; (try dsimp only at hSw); go_simp; (first | done | with_reducible rfl | rw [if_neg (by omega)]))
    simp only [Act.put, List.setIfInBounds_toArray, List.set_cons_zero, List.set_cons_succ]
    refine takeY (oi := { dst := some 3, op := Op.assign (Operand.const (Value.int IntKind.i64 0)), type := 28, pos := "web.go:127", after := #[{ on := 13, ground := Ground.chain }, { on := 0, ground := Ground.phase }, { on := 1, ground := Ground.phase }, { on := 2, ground := Ground.phase }, { on := 3, ground := Ground.phase }, { on := 4, ground := Ground.phase }, { on := 5, ground := Ground.phase }, { on := 6, ground := Ground.phase }, { on := 7, ground := Ground.phase }, { on := 8, ground := Ground.phase }, { on := 9, ground := Ground.phase }, { on := 10, ground := Ground.phase }, { on := 11, ground := Ground.phase }, { on := 12, ground := Ground.phase }, { on := 13, ground := Ground.phase }], guard := none }) 14 (some 3) (v := ?v14_116) rfl rfl (by kernel_rfl) (by kernel_rfl) (by kernel_rfl) (fun _ _ _ h => h) (by kernel_rfl) ?hy116 hH3 ?_
    case hy116 => (intro w_ hSw; (try dsimp only at hSw); go_simp; (first | done | with_reducible rfl | rw [if_neg (by omega)]))
    simp only [Act.put, List.setIfInBounds_toArray, List.set_cons_zero, List.set_cons_succ]
    refine wpAnyH_done (by kernel_rfl) ?_ _
    have hEnd := hH3
    clear hH3
    have HE := Lib.hid hEnd.2
    go_wp2
    go_ret2
    exact ⟨by rw [edgeText, if_pos hc, hc]; rfl, HE.out⟩
  · go_enter Try.func19, Try.ntmps19
    go_wp2_with (
      (go_at_call 46; refine (graph_Check_calls _ _ _ _ 3 l [id, x, y] _ hs ?hP HF.out ?hI).mono ?_; (case hP => exact Kd.C_below HX.out (keepB0 (below_al _ _) (below_al w _))); (case hI => exact C_boxesg (by simp) [id, x, y] .i64 (by simp)); rintro e w1 ⟨rfl, hb1⟩; have HB1 := Lib.hid (keepB0 hb1 (keepB0 (below_al _ _) (below_al w _))); clear hb1))
    go_ret2
    exact ⟨by rw [edgeText, if_neg hc]; rfl, HB1.out⟩
end Go.Proofs.Ytonbnlfijmapfaa
/- web.Entries. -/
namespace Go.Proofs.Ytonbnlfijmapfaa
open Go.RowKit Go.Shelf Go.Proofs.YtonbnlfijmapfaaW.PrintWords
set_option linter.unusedVariables false
set_option linter.unusedSimpArgs false

def propEntry (id : Int) (label : ByteArray) (p : SPrp) : SEntry := ⟨strOfNums [80] ++ label ++ strOfNums [32] ++ p.f0, strOfNums (valBytes p.f1.f0 p.f1.f1 p.f1.f2) ++ strOfNums (fiveBytes id)⟩
def entries (id : Int) (label : ByteArray) (ps : List SPrp) : List SEntry := if checkN label ps [id] = 0 then ⟨strOfNums [76] ++ label, strOfNums (fiveBytes id)⟩ :: ps.map (propEntry id label) else []

theorem map_take {α β : Type} (g : α → β) (l : List α) (k : Nat) (z : α) (h : k < l.length) : (l.take (k + 1)).map g = (l.take k).map g ++ [g (l.getD k z)] := by
  rw [List.take_succ_eq_append_getElem h]
  simp only [List.map_append, List.getD_eq_getElem?_getD, List.getElem?_eq_getElem h, Option.getD_some, List.map_cons, List.map_nil]

set_option maxRecDepth 100000 in
set_option maxHeartbeats 4000000 in
theorem web_Entries_calls (id : Int) (s : ByteArray) (A : Option Addr) (c : Nat) (l : List SPrp) (w : World) (hs : s.size ≤ 2000000) (h : kPrp.C w A l.length l) (hf : fits l) (hg : ranged l) :
    Calls Try.prog 20 #[.agg #[.int .i64 id, .string s, .slice A l.length c]] w fun e w' => ∃ v, e = .returned v ∧ kEntry.R 39 w' w.heap.size (fun _ => True) v (entries id s l) ∧ Below w.heap.size w w' := by
  have HX := Lib.hid h; clear h
  have HF := Lib.hid hf; clear hf
  have HG := Lib.hid hg; clear hg
  by_cases hc : checkN s l [id] = 0
  · have hr := (checkN_ok hc).2.2
    obtain ⟨hok, h16⟩ := propsRight_ok hr
    have HO := Lib.hid hok; clear hok
    have HE := Lib.hid (show entries id s l = ⟨strOfNums [76] ++ s, strOfNums (fiveBytes id)⟩ :: l.map (propEntry id s) by rw [entries, if_pos hc])
    have z1 := five_size id
    go_enter Try.func20, Try.ntmps20
    go_wp2_with (
      (go_at_call 46; refine (graph_Check_calls _ _ _ _ 1 l [id] _ hs ?hP HF.out ?hI).mono ?_; (case hP => exact Kd.C_below HX.out (keepB0 (below_al _ _) (below_al w _))); (case hI => exact C_boxg (Kd.int .i64) (by decide) _ _ (by simp) id #[.int .i64 id] _ rfl); rw [hc]; rintro e w1 ⟨rfl, hb1⟩; have K1 := Lib.hid (blk_below hb1 (blk_alloc (blk_new w #[.int .i64 id, .string s, .slice A l.length c] 24) _)); have HB1 := Lib.hid (keepB0 hb1 (keepB0 (below_al _ _) (below_al w _))); clear hb1))
    refine wp_region_held_drew (S := (fun w' => Blk w' w.heap.size #[.int .i64 id, .string s, .slice A l.length c] 24 ∧ Below w.heap.size w w')) (by kernel_rfl) ?hS101 (fun hH0 => ?_)
    case hS101 => exact ⟨blk_drew K1.out, below_drew HB1.out⟩
    refine takeY (oi := { dst := some 17, op := Op.fieldAddr 24 (Operand.tmp 1) 1, type := 0, pos := "web.go:72", after := #[], guard := none }) 0 (some 17) (v := ?v0_102) rfl rfl (by kernel_rfl) (by kernel_rfl) (by kernel_rfl) (fun _ _ _ h => h) (by kernel_rfl) ?hy102 hH0 ?_
    case hy102 => (intro w_ hSw; (try dsimp only at hSw); go_simp; (first | done | with_reducible rfl | rw [if_neg (by omega)]))
    simp only [Act.put, List.setIfInBounds_toArray, List.set_cons_zero, List.set_cons_succ]
    refine takeY (oi := { dst := some 18, op := Op.load 9 (Operand.tmp 17), type := 9, pos := "web.go:72", after := #[{ on := 0, ground := Ground.data }], guard := none }) 1 (some 18) (v := ?v1_103) rfl rfl (by kernel_rfl) (by kernel_rfl) (by kernel_rfl) (fun _ _ _ h => h) (by kernel_rfl) ?hy103 hH0 ?_
    case hy103 => (intro w_ hSw; (try dsimp only at hSw); (have hc := blk_cell hSw.1 1; go_simp; (first | done | with_reducible rfl)))
    simp only [Act.put, List.setIfInBounds_toArray, List.set_cons_zero, List.set_cons_succ]
    refine takeY (oi := { dst := some 20, op := Op.fieldAddr 24 (Operand.tmp 1) 0, type := 0, pos := "web.go:72", after := #[], guard := none }) 3 (some 20) (v := ?v3_104) rfl rfl (by kernel_rfl) (by kernel_rfl) (by kernel_rfl) (fun _ _ _ h => h) (by kernel_rfl) ?hy104 hH0 ?_
    case hy104 => (intro w_ hSw; (try dsimp only at hSw); go_simp; (first | done | with_reducible rfl | rw [if_neg (by omega)]))
    simp only [Act.put, List.setIfInBounds_toArray, List.set_cons_zero, List.set_cons_succ]
    refine takeY (oi := { dst := some 21, op := Op.load 3 (Operand.tmp 20), type := 3, pos := "web.go:72", after := #[{ on := 3, ground := Ground.data }], guard := none }) 4 (some 21) (v := ?v4_105) rfl rfl (by kernel_rfl) (by kernel_rfl) (by kernel_rfl) (fun _ _ _ h => h) (by kernel_rfl) ?hy105 hH0 ?_
    case hy105 => (intro w_ hSw; (try dsimp only at hSw); (have hc := blk_cell hSw.1 0; go_simp; (first | done | with_reducible rfl)))
    simp only [Act.put, List.setIfInBounds_toArray, List.set_cons_zero, List.set_cons_succ]
    refine wpAnyH_ready (rs := [2]) (by kernel_rfl) (by simp) ?_
    refine AllReadyH.cons (o := { dst := some 19, op := Op.call { callee := Callee.value (Operand.func 33), args := #[Operand.tmp 18], argTypes := #[9] }, type := 9, pos := "web.go:72", after := #[{ on := 1, ground := Ground.data }], guard := none }) rfl (fun K1 hK1 => ?_) AllReadyH.nil
    go_simp; refine (web_LabelIndex_calls _ _ (by omega)).mono ?_; rintro e w2 ⟨rfl, rfl⟩
    refine hK1.out _ _ ?hS106 (fun hH1 => ?_)
    case hS106 => ((try dsimp only); (exact hH0))
    clear hK1 K1
    (try clear hH0)
    (try simp only [Act.put, List.setIfInBounds_toArray, List.set_cons_zero, List.set_cons_succ])
    refine wpAnyH_ready (rs := [5]) (by kernel_rfl) (by simp) ?_
    refine AllReadyH.cons (o := { dst := some 22, op := Op.call { callee := Callee.value (Operand.func 71), args := #[Operand.tmp 21], argTypes := #[3] }, type := 9, pos := "web.go:72", after := #[{ on := 4, ground := Ground.data }, { on := 2, ground := Ground.chain }], guard := none }) rfl (fun K2 hK2 => ?_) AllReadyH.nil
    go_simp; refine (web_five_calls _ _).mono ?_; rintro e w3 ⟨rfl, hb3⟩; have hB3 := Nat.le_trans hH1.2.size hb3.size
    refine hK2.out _ _ ?hS107 (fun hH2 => ?_)
    case hS107 => ((try dsimp only); (exact ⟨blk_below hb3 hH1.1, keepB0 hb3 hH1.2⟩))
    clear hK2 K2
    (try clear hH1)
    (try simp only [Act.put, List.setIfInBounds_toArray, List.set_cons_zero, List.set_cons_succ])
    refine takeY (oi := { dst := some 23, op := Op.build 39 #[(0, Operand.tmp 19), (1, Operand.tmp 22)], type := 39, pos := "web.go:72", after := #[{ on := 2, ground := Ground.data }, { on := 5, ground := Ground.data }], guard := none }) 6 (some 23) (v := ?v6_108) rfl rfl (by kernel_rfl) (by kernel_rfl) (by kernel_rfl) (fun _ _ _ h => h) (by kernel_rfl) ?hy108 hH2 ?_
    case hy108 => (intro w_ hSw; (try dsimp only at hSw); go_simp; (first | done | with_reducible rfl | rw [if_neg (by omega)]))
    simp only [Act.put, List.setIfInBounds_toArray, List.set_cons_zero, List.set_cons_succ]
    refine wpAnyH_ready (rs := [7]) (by kernel_rfl) (by simp) ?_
    refine AllReadyH.cons (o := { dst := some 24, op := Op.buildSlice 36 1 #[(0, Operand.tmp 23)], type := 36, pos := "web.go:72", after := #[{ on := 6, ground := Ground.data }], guard := none }) rfl (fun K3 hK3 => ?_) AllReadyH.nil
    go_simp
    refine hK3.out _ _ ?hS109 (fun hH3 => ?_)
    case hS109 => ((try dsimp only); (exact ⟨blk_alloc hH2.1 _, keepB0 (below_al _ _) hH2.2⟩))
    clear hK3 K3
    (try clear hH2)
    (try simp only [Act.put, List.setIfInBounds_toArray, List.set_cons_zero, List.set_cons_succ])
    refine takeY (oi := { dst := some 3, op := Op.assign (Operand.tmp 24), type := 36, pos := "web.go:72", after := #[{ on := 7, ground := Ground.data }, { on := 5, ground := Ground.chain }, { on := 0, ground := Ground.phase }, { on := 1, ground := Ground.phase }, { on := 2, ground := Ground.phase }, { on := 3, ground := Ground.phase }, { on := 4, ground := Ground.phase }, { on := 5, ground := Ground.phase }, { on := 6, ground := Ground.phase }, { on := 7, ground := Ground.phase }], guard := none }) 8 (some 3) (v := ?v8_110) rfl rfl (by kernel_rfl) (by kernel_rfl) (by kernel_rfl) (fun _ _ _ h => h) (by kernel_rfl) ?hy110 hH3 ?_
    case hy110 => (intro w_ hSw; (try dsimp only at hSw); go_simp; (first | done | with_reducible rfl | rw [if_neg (by omega)]))
    simp only [Act.put, List.setIfInBounds_toArray, List.set_cons_zero, List.set_cons_succ]
    refine wpAnyH_done (by kernel_rfl) ?_ _
    have hEnd := hH3
    clear hH3
    have HB3 := Lib.hid hEnd.2
    have K3 := Lib.hid hEnd.1
    have c2 : (w3.alloc (.cells #[.string (strOfNums [76] ++ s), .string (strOfNums (fiveBytes id))] 39)).cell? ⟨w.heap.size, 2, none⟩ = some (.slice A l.length c) := blk_cell K3.out 2
    have HR0 := Lib.hid (R_boxd kEntry (W := w3) (T := 39) ⟨strOfNums [76] ++ s, strOfNums (fiveBytes id)⟩ #[.string (strOfNums [76] ++ s), .string (strOfNums (fiveBytes id))] (kEntry_mkM _ _ _ _) hB3)
    go_wp2
    go_loopw [3, 28] (fun v3 v28 wr => ∃ (k : Nat), k ≤ l.length ∧ v28 = .int .i64 k ∧ Hid (Below w.heap.size w wr) ∧ Hid (Blk wr w.heap.size #[.int .i64 id, .string s, .slice A l.length c] 24) ∧ Hid (kEntry.R 39 wr w.heap.size (fun _ => True) v3 (⟨strOfNums [76] ++ s, strOfNums (fiveBytes id)⟩ :: (l.take k).map (propEntry id s)))) (fun _ v28 _ => l.length - (intOf v28).toNat)
    case atStart => exact ⟨0, by omega, rfl, HB3, K3, HR0⟩
    case round =>
      obtain ⟨k, hk, rfl, HB, HK, HR⟩ := hrel
      by_cases hlt : k < l.length
      · have hlt2 : (k : Int) < (l.length : Int) := by omega
        have hmem : l.getD k zPrp ∈ l := by simp [List.getD_eq_getElem?_getD, List.getElem?_eq_getElem hlt]
        have hsz := HF.out _ hmem
        have hrg := HG.out _ hmem
        have hvo := (HO.out _ hmem).2
        have HT := Lib.hid (map_take (propEntry id s) l k zPrp hlt)
        have hL2 := List.length_take_le k l
        obtain ⟨ad, rfl, g0, g1, g2, g3⟩ := at_Prp (Kd.C_below HX.out HB.out) (k : Int) (by omega) (by omega)
        simp only [Int.toNat_natCast, rd_Prp] at g0 g1 g2 g3
        cases hy : l.getD k zPrp with
        | mk y0 yv =>
        cases yv with
        | mk y1 y2 y3 =>
        rw [hy] at g0 g1 g2 g3 hsz hrg hvo HT
        clear hy hmem
        simp only at g0 g1 g2 g3 hsz hrg hvo
        have hvl := valBytes_length (k := y1) (n := y2) (s := y3) hvo
        have hvz := strOfNums_size (valBytes y1 y2 y3)
        go_wp2_with (go_at_call 72; refine (value_Bytes_calls y1 y2 y3 _ hrg.1 hrg.2 hvo).mono ?_; rintro e w7 ⟨v7, rfl, hR7, hb7⟩; have HR7 := Lib.hid hR7; have HB7 := Lib.hid hb7; clear hR7 hb7)
        have HB0 : Below w.heap.size w w7.drew := below_drew (keepB0 HB7.out (keepB0 (below_al _ _) HB.out))
        have HK7 := Lib.hid (blk_drew (blk_below HB7.out (blk_alloc HK.out (.cells #[.string y0, .int .i64 y1, .int .i64 y2, .string y3] 117))))
        have HP7 := Lib.hid (blk_drew (blk_below HB7.out (blk_new wr #[.string y0, .int .i64 y1, .int .i64 y2, .string y3] 117)))
        have HR4 := Lib.hid (Kd.R_drew (Kd.R_below (Kd.R_alloc HR.out (.cells #[.string y0, .int .i64 y1, .int .i64 y2, .string y3] 117)) HB7.out))
        have hB4 : w.heap.size ≤ w7.drew.heap.size := HB0.size
        go_wp2_with fail
        refine wp_region_held_drew (S := (fun w' => Blk w' w.heap.size #[.int .i64 id, .string s, .slice (some ad) l.length c] 24 ∧ Blk w' wr.heap.size #[.string y0, .int .i64 y1, .int .i64 y2, .string y3] 117 ∧ (Kd.int .u8).R 5 w' (wr.alloc (.cells #[.string y0, .int .i64 y1, .int .i64 y2, .string y3] 117)).heap.size (fun _ => True) v7 (valBytes y1 y2 y3) ∧ Below w.heap.size w w')) (by kernel_rfl) ?hS201 (fun hH0 => ?_)
        case hS201 => exact ⟨HK7.out, HP7.out, Kd.R_drew HR7.out, HB0⟩
        refine takeY (oi := { dst := some 38, op := Op.move (Operand.tmp 3), type := 36, pos := "web.go:75", after := #[], guard := none }) 0 (some 38) (v := ?v0_202) rfl rfl (by kernel_rfl) (by kernel_rfl) (by kernel_rfl) (fun _ _ _ h => h) (by kernel_rfl) ?hy202 hH0 ?_
        case hy202 => (intro w_ hSw; (try dsimp only at hSw); go_simp; (first | done | with_reducible rfl | rw [if_neg (by omega)]))
        simp only [Act.put, List.setIfInBounds_toArray, List.set_cons_zero, List.set_cons_succ]
        refine takeY (oi := { dst := some 39, op := Op.fieldAddr 24 (Operand.tmp 1) 1, type := 0, pos := "web.go:75", after := #[], guard := none }) 1 (some 39) (v := ?v1_203) rfl rfl (by kernel_rfl) (by kernel_rfl) (by kernel_rfl) (fun _ _ _ h => h) (by kernel_rfl) ?hy203 hH0 ?_
        case hy203 => (intro w_ hSw; (try dsimp only at hSw); go_simp; (first | done | with_reducible rfl | rw [if_neg (by omega)]))
        simp only [Act.put, List.setIfInBounds_toArray, List.set_cons_zero, List.set_cons_succ]
        refine takeY (oi := { dst := some 40, op := Op.load 9 (Operand.tmp 39), type := 9, pos := "web.go:75", after := #[{ on := 1, ground := Ground.data }], guard := none }) 2 (some 40) (v := ?v2_204) rfl rfl (by kernel_rfl) (by kernel_rfl) (by kernel_rfl) (fun _ _ _ h => h) (by kernel_rfl) ?hy204 hH0 ?_
        case hy204 => (intro w_ hSw; (try dsimp only at hSw); (have hc := blk_cell hSw.1 1; go_simp; (first | done | with_reducible rfl)))
        simp only [Act.put, List.setIfInBounds_toArray, List.set_cons_zero, List.set_cons_succ]
        refine takeY (oi := { dst := some 41, op := Op.fieldAddr 117 (Operand.tmp 5) 0, type := 0, pos := "web.go:75", after := #[], guard := none }) 3 (some 41) (v := ?v3_205) rfl rfl (by kernel_rfl) (by kernel_rfl) (by kernel_rfl) (fun _ _ _ h => h) (by kernel_rfl) ?hy205 hH0 ?_
        case hy205 => (intro w_ hSw; (try dsimp only at hSw); go_simp; (first | done | with_reducible rfl | rw [if_neg (by omega)]))
        simp only [Act.put, List.setIfInBounds_toArray, List.set_cons_zero, List.set_cons_succ]
        refine takeY (oi := { dst := some 42, op := Op.load 9 (Operand.tmp 41), type := 9, pos := "web.go:75", after := #[{ on := 3, ground := Ground.data }], guard := none }) 4 (some 42) (v := ?v4_206) rfl rfl (by kernel_rfl) (by kernel_rfl) (by kernel_rfl) (fun _ _ _ h => h) (by kernel_rfl) ?hy206 hH0 ?_
        case hy206 => (intro w_ hSw; (try dsimp only at hSw); (have hc := blk_cell hSw.2.1 0; go_simp; (first | done | with_reducible rfl)))
        simp only [Act.put, List.setIfInBounds_toArray, List.set_cons_zero, List.set_cons_succ]
        refine takeY (oi := { dst := some 44, op := Op.move (Operand.tmp 6), type := 46, pos := "web.go:75", after := #[], guard := none }) 6 (some 44) (v := ?v6_207) rfl rfl (by kernel_rfl) (by kernel_rfl) (by kernel_rfl) (fun _ _ _ h => h) (by kernel_rfl) ?hy207 hH0 ?_
        case hy207 => (intro w_ hSw; (try dsimp only at hSw); go_simp; (first | done | with_reducible rfl | rw [if_neg (by omega)]))
        simp only [Act.put, List.setIfInBounds_toArray, List.set_cons_zero, List.set_cons_succ]
        refine takeY (oi := { dst := some 45, op := Op.convert 46 9 (Operand.tmp 44), type := 9, pos := "web.go:75", after := #[{ on := 6, ground := Ground.data }], guard := none }) 7 (some 45) (v := ?v7_208) rfl rfl (by kernel_rfl) (by kernel_rfl) (by kernel_rfl) (fun _ _ _ h => h) (by kernel_rfl) ?hy208 hH0 ?_
        case hy208 => (intro w_ hSw; (try dsimp only at hSw); (have hc := str_R hSw.2.2.1 (Below.refl _ _); go_simp; (first | done | with_reducible rfl)))
        simp only [Act.put, List.setIfInBounds_toArray, List.set_cons_zero, List.set_cons_succ]
        refine takeY (oi := { dst := some 46, op := Op.fieldAddr 24 (Operand.tmp 1) 0, type := 0, pos := "web.go:75", after := #[], guard := none }) 8 (some 46) (v := ?v8_209) rfl rfl (by kernel_rfl) (by kernel_rfl) (by kernel_rfl) (fun _ _ _ h => h) (by kernel_rfl) ?hy209 hH0 ?_
        case hy209 => (intro w_ hSw; (try dsimp only at hSw); go_simp; (first | done | with_reducible rfl | rw [if_neg (by omega)]))
        simp only [Act.put, List.setIfInBounds_toArray, List.set_cons_zero, List.set_cons_succ]
        refine takeY (oi := { dst := some 47, op := Op.load 3 (Operand.tmp 46), type := 3, pos := "web.go:75", after := #[{ on := 8, ground := Ground.data }], guard := none }) 9 (some 47) (v := ?v9_210) rfl rfl (by kernel_rfl) (by kernel_rfl) (by kernel_rfl) (fun _ _ _ h => h) (by kernel_rfl) ?hy210 hH0 ?_
        case hy210 => (intro w_ hSw; (try dsimp only at hSw); (have hc := blk_cell hSw.1 0; go_simp; (first | done | with_reducible rfl)))
        simp only [Act.put, List.setIfInBounds_toArray, List.set_cons_zero, List.set_cons_succ]
        refine wpAnyH_ready (rs := [5]) (by kernel_rfl) (by simp) ?_
        refine AllReadyH.cons (o := { dst := some 43, op := Op.call { callee := Callee.value (Operand.func 34), args := #[Operand.tmp 40, Operand.tmp 42], argTypes := #[9, 9] }, type := 9, pos := "web.go:75", after := #[{ on := 2, ground := Ground.data }, { on := 4, ground := Ground.data }], guard := none }) rfl (fun K1 hK1 => ?_) AllReadyH.nil
        go_simp; refine (web_ValueIndex_calls _ _ _ (by omega) (by omega)).mono ?_; rintro e w2 ⟨rfl, rfl⟩
        refine hK1.out _ _ ?hS211 (fun hH1 => ?_)
        case hS211 => ((try dsimp only); (exact hH0))
        clear hK1 K1
        (try clear hH0)
        (try simp only [Act.put, List.setIfInBounds_toArray, List.set_cons_zero, List.set_cons_succ])
        refine wpAnyH_ready (rs := [10]) (by kernel_rfl) (by simp) ?_
        refine AllReadyH.cons (o := { dst := some 48, op := Op.call { callee := Callee.value (Operand.func 71), args := #[Operand.tmp 47], argTypes := #[3] }, type := 9, pos := "web.go:75", after := #[{ on := 9, ground := Ground.data }, { on := 5, ground := Ground.chain }], guard := none }) rfl (fun K2 hK2 => ?_) AllReadyH.nil
        go_simp; refine (web_five_calls _ _).mono ?_; rintro e w9 ⟨rfl, hb9⟩; have hR9 := Kd.R_below HR4.out hb9; have hB9 := Nat.le_trans hB4 hb9.size; have q1 := blk_below hb9 hH1.1; have q2 := blk_below hb9 hH1.2.1; have q3 := Kd.R_below hH1.2.2.1 hb9; have q4 := keepB0 hb9 hH1.2.2.2
        refine hK2.out _ _ ?hS212 (fun hH2 => ?_)
        case hS212 => ((try dsimp only); (exact ⟨q1, q2, q3, q4⟩))
        clear hK2 K2
        (try clear hH1)
        (try simp only [Act.put, List.setIfInBounds_toArray, List.set_cons_zero, List.set_cons_succ])
        refine takeY (oi := { dst := some 49, op := Op.binOp BinOp.add 9 (Operand.tmp 45) (Operand.tmp 48) 9, type := 9, pos := "web.go:75", after := #[{ on := 7, ground := Ground.data }, { on := 10, ground := Ground.data }], guard := none }) 11 (some 49) (v := ?v11_213) rfl rfl (by kernel_rfl) (by kernel_rfl) (by kernel_rfl) (fun _ _ _ h => h) (by kernel_rfl) ?hy213 hH2 ?_
        case hy213 => (intro w_ hSw; (try dsimp only at hSw); go_simp; (first | done | with_reducible rfl | rw [if_neg (by omega)]))
        simp only [Act.put, List.setIfInBounds_toArray, List.set_cons_zero, List.set_cons_succ]
        refine takeY (oi := { dst := some 50, op := Op.build 39 #[(0, Operand.tmp 43), (1, Operand.tmp 49)], type := 39, pos := "web.go:75", after := #[{ on := 5, ground := Ground.data }, { on := 11, ground := Ground.data }], guard := none }) 12 (some 50) (v := ?v12_214) rfl rfl (by kernel_rfl) (by kernel_rfl) (by kernel_rfl) (fun _ _ _ h => h) (by kernel_rfl) ?hy214 hH2 ?_
        case hy214 => (intro w_ hSw; (try dsimp only at hSw); go_simp; (first | done | with_reducible rfl | rw [if_neg (by omega)]))
        simp only [Act.put, List.setIfInBounds_toArray, List.set_cons_zero, List.set_cons_succ]
        refine wpAnyH_ready (rs := [13]) (by kernel_rfl) (by simp) ?_
        refine AllReadyH.cons (o := { dst := some 51, op := Op.buildSlice 36 1 #[(0, Operand.tmp 50)], type := 36, pos := "web.go:75", after := #[{ on := 12, ground := Ground.data }], guard := none }) rfl (fun K3 hK3 => ?_) AllReadyH.nil
        go_simp
        refine hK3.out _ _ ?hS215 (fun hH3 => ?_)
        case hS215 => ((try dsimp only); (exact ⟨blk_alloc hH2.1 _, blk_alloc hH2.2.1 _, Kd.R_alloc hH2.2.2.1 _, keepB0 (below_al _ _) hH2.2.2.2⟩))
        clear hK3 K3
        (try clear hH2)
        (try simp only [Act.put, List.setIfInBounds_toArray, List.set_cons_zero, List.set_cons_succ])
        refine wpAnyH_ready (rs := [14]) (by kernel_rfl) (by simp) ?_
        refine AllReadyH.cons (o := { dst := some 52, op := Op.call { callee := Callee.builtin Builtin.append, args := #[Operand.tmp 38, Operand.tmp 51], argTypes := #[36, 36] }, type := 36, pos := "web.go:75", after := #[{ on := 0, ground := Ground.data }, { on := 13, ground := Ground.data }, { on := 10, ground := Ground.chain }], guard := none }) rfl (fun K4 hK4 => ?_) AllReadyH.nil
        obtain ⟨v2, w2, hr2, hR2, hb2, hg2, hat2⟩ := run_app_one (ty := 36) hR9 info_Entry Try.underlying36 (kEntry_mkM _ _ _ (propEntry id s ⟨y0, ⟨y1, y2, y3⟩⟩)) (fun _ _ => trivial) hB9 (by simp; omega) rfl (by decide) (by decide); refine step_app (by kernel_rfl) rfl rfl rfl hr2 ?_
        refine hK4.out _ _ ?hS216 (fun hH4 => ?_)
        case hS216 => ((try dsimp only); (exact ⟨blk_grown q1 hR9 hg2 (by decide), blk_grown q2 hR9 hg2 (by decide), R_beside q3 rfl hR9 hg2 (by decide), q4.trans hb2⟩))
        clear hK4 K4
        (try clear hH3)
        (try simp only [Act.put, List.setIfInBounds_toArray, List.set_cons_zero, List.set_cons_succ])
        refine takeY (oi := { dst := some 3, op := Op.assign (Operand.tmp 52), type := 36, pos := "web.go:75", after := #[{ on := 14, ground := Ground.data }, { on := 14, ground := Ground.chain }, { on := 0, ground := Ground.phase }, { on := 1, ground := Ground.phase }, { on := 2, ground := Ground.phase }, { on := 3, ground := Ground.phase }, { on := 4, ground := Ground.phase }, { on := 5, ground := Ground.phase }, { on := 6, ground := Ground.phase }, { on := 7, ground := Ground.phase }, { on := 8, ground := Ground.phase }, { on := 9, ground := Ground.phase }, { on := 10, ground := Ground.phase }, { on := 11, ground := Ground.phase }, { on := 12, ground := Ground.phase }, { on := 13, ground := Ground.phase }, { on := 14, ground := Ground.phase }], guard := none }) 15 (some 3) (v := ?v15_217) rfl rfl (by kernel_rfl) (by kernel_rfl) (by kernel_rfl) (fun _ _ _ h => h) (by kernel_rfl) ?hy217 hH4 ?_
        case hy217 => (intro w_ hSw; (try dsimp only at hSw); go_simp; (first | done | with_reducible rfl | rw [if_neg (by omega)]))
        simp only [Act.put, List.setIfInBounds_toArray, List.set_cons_zero, List.set_cons_succ]
        refine wpAnyH_done (by kernel_rfl) ?_ _
        have hEnd := hH4
        clear hH4
        have HB5 := Lib.hid hEnd.2.2.2
        have HK5 := Lib.hid hEnd.1
        have HR5 := Lib.hid hR2
        clear hR2 hg2 hb2 hR9 q3
        go_wp2
        go_roundw
        case rel =>
          refine ⟨k + 1, by omega, by go_num, HB5, HK5, Lib.hid ?_⟩
          have e := HR5.out
          rw [HT.out]
          exact e
        case measure => simp [intOf]; omega
      · have hlt2 : ¬ (k : Int) < (l.length : Int) := by omega
        go_wp2
        go_ret
        refine ⟨_, rfl, ?_, HB.out⟩
        rw [HE.out]
        have := HR.out
        rwa [List.take_of_length_le (by omega)] at this
  · have hE : entries id s l = [] := by rw [entries, if_neg hc]
    go_enter Try.func20, Try.ntmps20
    go_wp2_with (
      (go_at_call 46; refine (graph_Check_calls _ _ _ _ 1 l [id] _ hs ?hP HF.out ?hI).mono ?_; (case hP => exact Kd.C_below HX.out (keepB0 (below_al _ _) (below_al w _))); (case hI => exact C_boxg (Kd.int .i64) (by decide) _ _ (by simp) id #[.int .i64 id] _ rfl); rintro e w1 ⟨rfl, hb1⟩; have HB1 := Lib.hid (keepB0 hb1 (keepB0 (below_al _ _) (below_al w _))); clear hb1))
    go_ret
    exact ⟨_, rfl, by rw [hE]; exact Kd.R_nil _ _ _ _ _, HB1.out⟩
end Go.Proofs.Ytonbnlfijmapfaa
/- Lists held against each other: cobwebref03.Same, cobwebref16.SameV. -/
namespace Go.Proofs.Ytonbnlfijmapfaa
open Go.RowKit Go.Shelf Go.Proofs.YtonbnlfijmapfaaW.PrintWords
set_option linter.unusedVariables false
set_option linter.unusedSimpArgs false

theorem take_step {α : Type} (a b : List α) (k : Nat) (z : α) (h1 : k < a.length) (h2 : k < b.length) (h : a.take k = b.take k) (e : a.getD k z = b.getD k z) : a.take (k + 1) = b.take (k + 1) := by
  rw [List.take_succ_eq_append_getElem h1, List.take_succ_eq_append_getElem h2, h]
  simp only [List.getD_eq_getElem?_getD, List.getElem?_eq_getElem h1, List.getElem?_eq_getElem h2, Option.getD_some] at e
  rw [e]
theorem take_unlike {α : Type} {a b : List α} {k : Nat} {z : α} (e : ¬ a.getD k z = b.getD k z) : ¬ a = b := fun h => e (by rw [h])

set_option maxRecDepth 100000 in
set_option maxHeartbeats 2000000 in
theorem ref03_Same_calls (A B : Option Addr) (c d : Nat) (a b : List SPrp) (w : World) (ha : kPrp.C w A a.length a) (hb : kPrp.C w B b.length b) :
    Calls Try.prog 70 #[.slice A a.length c, .slice B b.length d] w fun e w' => e = .returned (.bool (decide (a = b))) ∧ Quiet w w' := by
  have hm := Kd.C_max ha
  have HX := Lib.hid ha; clear ha
  have HY := Lib.hid hb; clear hb
  go_enter Try.func70, Try.ntmps70
  by_cases hl : a.length = b.length
  · have hl2 : ((a.length : Int) = (b.length : Int)) := by omega
    go_wp2
    go_loopw [5] (fun v5 wr => ∃ (k : Nat), k ≤ a.length ∧ v5 = .int .i64 k ∧ Hid (Quiet w wr) ∧ Hid (a.take k = b.take k)) (fun v5 _ => a.length - (intOf v5).toNat)
    case atStart => exact ⟨0, by omega, rfl, Lib.hid (quiet_refl _), Lib.hid rfl⟩
    case round =>
      obtain ⟨k, hk, rfl, HB, HT⟩ := hrel
      by_cases hlt : k < a.length
      · have hlt2 : (k : Int) < (a.length : Int) := by omega
        have hlt3 : (k : Int) < (b.length : Int) := by omega
        obtain ⟨ad, rfl, g0, g1, g2, g3⟩ := at_Prp (Kd.C_below HX.out (quiet_below HB.out _)) (k : Int) (by omega) (by omega)
        obtain ⟨bd, rfl, f0, f1, f2, f3⟩ := at_Prp (Kd.C_below HY.out (quiet_below HB.out _)) (k : Int) (by omega) (by omega)
        simp only [Int.toNat_natCast, rd_Prp] at g0 g1 g2 g3 f0 f1 f2 f3
        by_cases he : a.getD k zPrp = b.getD k zPrp
        · have HS := Lib.hid (take_step a b k zPrp hlt (by omega) HT.out he)
          rw [← he] at f0 f1 f2 f3
          cases hy : a.getD k zPrp with
          | mk y0 yv =>
          cases yv with
          | mk y1 y2 y3 =>
          rw [hy] at g0 g1 g2 g3 f0 f1 f2 f3
          clear hy he
          simp only at g0 g1 g2 g3 f0 f1 f2 f3
          have q := eq_Prp (decide_eq_true (Eq.refl (⟨y0, ⟨y1, y2, y3⟩⟩ : SPrp)))
          go_wp2_with fail
          go_quiet (fail)
          go_wp2
          go_roundw
          case rel => exact ⟨k + 1, by omega, by go_num, Lib.hid (quiet_step HB.out _), HS⟩
          case measure => simp [intOf]; omega
        · have HN := Lib.hid (show decide (a = b) = false from decide_eq_false (take_unlike he))
          cases hy : a.getD k zPrp with
          | mk y0 yv =>
          cases yv with
          | mk y1 y2 y3 =>
          cases hx : b.getD k zPrp with
          | mk x0 xv =>
          cases xv with
          | mk x1 x2 x3 =>
          rw [hx, hy] at he
          rw [hy] at g0 g1 g2 g3 
          rw [hx] at f0 f1 f2 f3
          clear hx hy
          simp only at g0 g1 g2 g3 f0 f1 f2 f3
          have q := eq_Prp (decide_eq_false he)
          go_wp2_with fail
          go_quiet (fail)
          go_wp2
          go_ret
          exact ⟨ret_bool HN.out.symm, quiet_step HB.out _⟩
      · have hlt2 : ¬ (k : Int) < (b.length : Int) := by omega
        go_wp2
        go_ret
        refine ⟨ret_bool (Eq.symm (decide_eq_true ?_)), HB.out⟩
        have := HT.out
        rwa [List.take_of_length_le (by omega), List.take_of_length_le (by omega)] at this
  · have hl2 : ¬ ((a.length : Int) = (b.length : Int)) := by omega
    go_wp2
    go_ret
    exact ⟨ret_bool (Eq.symm (decide_eq_false (fun h => hl (by rw [h])))), quiet_refl _⟩

end Go.Proofs.Ytonbnlfijmapfaa
/- cobwebref10.Ints, Has. No condition. -/
namespace Go.Proofs.Ytonbnlfijmapfaa
open Go.RowKit Go.Shelf Go.Proofs.YtonbnlfijmapfaaW.PrintWords
set_option linter.unusedVariables false
set_option linter.unusedSimpArgs false

set_option maxRecDepth 100000 in
set_option maxHeartbeats 4000000 in
theorem ref10_Ints_calls (A B : Option Addr) (c d : Nat) (a b : List Int) (w : World) (ha : (Kd.int .i64).C w A a.length a) (hb : (Kd.int .i64).C w B b.length b) :
    Calls Try.prog 63 #[.slice A a.length c, .slice B b.length d] w fun e w' => e = .returned (.bool (decide (a = b))) ∧ Quiet w w' := by
  have hm := Kd.C_max ha
  have HX := Lib.hid ha; clear ha
  have HY := Lib.hid hb; clear hb
  go_enter Try.func63, Try.ntmps63
  by_cases hl : a.length = b.length
  · have hl2 : ((a.length : Int) = (b.length : Int)) := by omega
    have HL := Lib.hid hl
    go_wp2
    clear hl2 hl
    go_loopw [5] (fun v5 wr => ∃ (k : Nat), k ≤ a.length ∧ v5 = .int .i64 k ∧ Hid (Quiet w wr) ∧ Hid (a.take k = b.take k)) (fun v5 _ => a.length - (intOf v5).toNat)
    case atStart => exact ⟨0, by omega, rfl, Lib.hid (quiet_refl _), Lib.hid rfl⟩
    case round =>
      obtain ⟨k, hk, rfl, HB, HT⟩ := hrel
      by_cases hlt : k < a.length
      · have hlt2 : (k : Int) < (a.length : Int) := by omega
        have hlt3 : (k : Int) < (b.length : Int) := by have := HL.out; omega
        obtain ⟨ad, rfl, g0⟩ := Kd.at_int (Kd.C_below HX.out (quiet_below HB.out _)) (k : Int) (by omega) (by omega)
        obtain ⟨bd, rfl, f0⟩ := Kd.at_int (Kd.C_below HY.out (quiet_below HB.out _)) (k : Int) (by omega) (by omega)
        simp only [Int.toNat_natCast, rd] at g0 f0
        have HE := Lib.hid (fun e => take_step a b k 0 hlt (by have := HL.out; omega) HT.out e)
        have HN := Lib.hid (fun e => take_unlike (a := a) (b := b) (k := k) (z := 0) e)
        generalize a.getD k 0 = x at g0 HE HN
        generalize b.getD k 0 = y at f0 HE HN
        by_cases h0 : x = y
        · subst h0
          have HE1 := Lib.hid (HE.out rfl)
          clear HE HN
          go_wp2_with fail
          go_big_quiet (fail)
          go_wp2
          go_roundw
          case rel => exact ⟨k + 1, by omega, by go_num, Lib.hid (quiet_step HB.out _), HE1⟩
          case measure => simp [intOf]; omega
        · have h1 : (x != y) = true := by simpa using h0
          go_wp2_with fail
          go_big_quiet (fail)
          go_wp2
          go_ret
          exact ⟨ret_bool (Eq.symm (decide_eq_false (HN.out h0))), quiet_step HB.out _⟩
      · have hlt2 : ¬ (k : Int) < (a.length : Int) := by omega
        have HT2 := HT.out
        go_wp2
        go_ret
        refine ⟨ret_bool (Eq.symm (decide_eq_true ?_)), HB.out⟩
        have hl := HL.out
        rwa [List.take_of_length_le (by omega), List.take_of_length_le (by omega)] at HT2
  · have hl2 : ¬ ((a.length : Int) = (b.length : Int)) := by omega
    go_wp2
    go_ret
    exact ⟨ret_bool (Eq.symm (decide_eq_false (fun e => hl (by rw [e])))), quiet_refl _⟩

set_option maxHeartbeats 2000000 in
theorem ref10_Has_calls (A : Option Addr) (c : Nat) (l : List Int) (n : Int) (w : World) (ha : (Kd.int .i64).C w A l.length l) :
    Calls Try.prog 56 #[.slice A l.length c, .int .i64 n] w fun e w' => e = .returned (.bool (decide (n ∈ l))) ∧ w = w' := by
  have hm := Kd.C_max ha
  have HX := Lib.hid ha; clear ha
  go_enter Try.func56, Try.ntmps56
  go_wp2
  go_loopw [5] (fun v5 wr => ∃ (k : Nat), k ≤ l.length ∧ v5 = .int .i64 k ∧ wr = w ∧ Hid (decide (n ∈ l.drop k) = decide (n ∈ l))) (fun v5 _ => l.length - (intOf v5).toNat)
  case atStart => exact ⟨0, by omega, rfl, rfl, Lib.hid rfl⟩
  case round =>
    obtain ⟨k, hk, rfl, rfl, HT⟩ := hrel
    by_cases hlt : k < l.length
    · have hlt2 : (k : Int) < (l.length : Int) := by omega
      obtain ⟨ad, rfl, g0⟩ := Kd.at_int HX.out (k : Int) (by omega) (by omega)
      simp only [Int.toNat_natCast, rd] at g0
      have HD := Lib.hid (drop_cons l k 0 hlt)
      generalize l.getD k 0 = x at g0 HD
      by_cases h0 : x = n
      · subst h0
        go_wp2
        go_ret
        exact ⟨ret_bool (by rw [← HT.out, HD.out]; simp), rfl⟩
      · have h1 : ¬ n = x := fun e => h0 e.symm
        go_wp2
        go_roundw
        case rel => exact ⟨k + 1, by omega, by go_num, by trivial, Lib.hid (by rw [← HT.out, HD.out]; simp [h1])⟩
        case measure => simp [intOf]; omega
    · have hlt2 : ¬ (k : Int) < (l.length : Int) := by omega
      go_wp2
      go_ret
      exact ⟨ret_bool (by rw [← HT.out, List.drop_eq_nil_of_le (by omega)]; rfl), rfl⟩
end Go.Proofs.Ytonbnlfijmapfaa
/- cobweblaw17.awake. No condition. -/
namespace Go.Proofs.Ytonbnlfijmapfaa
open Go.RowKit Go.Shelf Go.Proofs.YtonbnlfijmapfaaW.PrintWords
set_option linter.unusedVariables false
set_option linter.unusedSimpArgs false

theorem aw17_1 : layV [] [⟨1, ⟨#[97]⟩, []⟩, ⟨2, ⟨#[97]⟩, []⟩] = [⟨1, ⟨#[97]⟩, []⟩, ⟨2, ⟨#[97]⟩, []⟩] := by kernel_rfl
theorem aw17_2 : layE (layV [] [⟨1, ⟨#[97]⟩, []⟩, ⟨2, ⟨#[97]⟩, []⟩]) [] [⟨5, ⟨#[120]⟩, 1, 2, []⟩] = [⟨5, ⟨#[120]⟩, 1, 2, []⟩] := by kernel_rfl
theorem aw17_3 : nextLeft 2 false [⟨5, ⟨#[120]⟩, 1, 2, []⟩] 1 true = 0 := by kernel_rfl
theorem aw17_4 : nextOk 2 false [⟨5, ⟨#[120]⟩, 1, 2, []⟩] 1 true = true := by kernel_rfl
theorem aw17_5 : nextL 2 false [⟨5, ⟨#[120]⟩, 1, 2, []⟩] 1 true ⟨#[]⟩ = [2] := by
  rw [nextL, aw17_4, if_pos rfl, nx]
  refine strict_ext (sortU_strict _) (by simp) (fun x => ?_)
  rw [mem_sortU, show (([⟨5, ⟨#[120]⟩, 1, 2, []⟩] : List SEdg).filter fun e => decide (near true e = 1) && okL ⟨#[]⟩ e) = [⟨5, ⟨#[120]⟩, 1, 2, []⟩] by kernel_rfl]
  simp [far]
theorem aw17_6 : lookOVertex 0 false [⟨1, ⟨#[97]⟩, []⟩, ⟨2, ⟨#[97]⟩, []⟩] 1 = ⟨0, ⟨#[]⟩, []⟩ := by kernel_rfl
theorem aw17_7 : payOk 0 false 1 = false := by kernel_rfl
theorem aw17_okE : okE [⟨5, ⟨#[120]⟩, 1, 2, []⟩] := fun x hx => by
  simp only [List.mem_singleton] at hx
  subst hx
  kernel_rfl
theorem aw17_inV : inV [⟨1, ⟨#[97]⟩, []⟩, ⟨2, ⟨#[97]⟩, []⟩] := fun x hx => by
  simp only [List.mem_cons, List.not_mem_nil, or_false] at hx
  rcases hx with rfl | rfl <;> exact ⟨fun _ h => by simp at h, by decide⟩
theorem aw17_inE : inE [⟨5, ⟨#[120]⟩, 1, 2, []⟩] := fun x hx => by
  simp only [List.mem_singleton] at hx
  subst hx
  exact ⟨fun _ h => by simp at h, by decide⟩
/-- Vertices, edges without properties, as literals. -/
theorem lit_V (i : Int) (s : ByteArray) (W : World) (base : Nat) : kVert.M W base (fun _ => True) ⟨i, s, []⟩ [.int .i64 i, .string s, .slice none 0 0] := kVert_mkM W base _ ⟨i, s, []⟩ (Kd.R_nil _ _ _ _ _)
theorem lit_E (i : Int) (s : ByteArray) (x y : Int) (W : World) (base : Nat) : kEdg.M W base (fun _ => True) ⟨i, s, x, y, []⟩ [.int .i64 i, .string s, .int .i64 x, .int .i64 y, .slice none 0 0] := kEdg_mkM W base _ ⟨i, s, x, y, []⟩ (Kd.R_nil _ _ _ _ _)
theorem C_lits {α : Type} (d : Kd α) {W : World} {T : Nat} (xs : List α) (cs : Array Value) (hrep : Reps (d.M W W.heap.size (fun _ => True)) d.sz xs cs.toList) (hm : xs.length ≤ 9223372036854775807) : d.C (W.alloc (.cells cs T)) (some ⟨W.heap.size, 0, none⟩) xs.length xs :=
  (Kd.R_reads' (R_lits d (T := T) xs cs hrep (Nat.le_refl _) hm)).2.2
theorem aw17_cV (W : World) : kVert.C (W.alloc (.cells #[.int .i64 1, .string ⟨#[97]⟩, .slice none 0 0, .int .i64 2, .string ⟨#[97]⟩, .slice none 0 0] 24)) (some ⟨W.heap.size, 0, none⟩) 2 [⟨1, ⟨#[97]⟩, []⟩, ⟨2, ⟨#[97]⟩, []⟩] :=
  C_lits kVert [⟨1, ⟨#[97]⟩, []⟩, ⟨2, ⟨#[97]⟩, []⟩] _ (((Reps.none _ 3).snoc (lit_V 1 ⟨#[97]⟩ W _) rfl).snoc (lit_V 2 ⟨#[97]⟩ W _) rfl) (by simp)
theorem aw17_cE (W : World) : kEdg.C (W.alloc (.cells #[.int .i64 5, .string ⟨#[120]⟩, .int .i64 1, .int .i64 2, .slice none 0 0] 35)) (some ⟨W.heap.size, 0, none⟩) 1 [⟨5, ⟨#[120]⟩, 1, 2, []⟩] :=
  C_lits kEdg [⟨5, ⟨#[120]⟩, 1, 2, []⟩] _ ((Reps.none _ 5).snoc (lit_E 5 ⟨#[120]⟩ 1 2 W _) rfl) (by simp)
theorem aw17_10 : (decide (([2] : List Int) = [2])) = true := rfl
set_option maxRecDepth 100000 in
set_option maxHeartbeats 4000000 in
theorem law17_awake_calls (w : World) :
    Calls Try.prog 51 #[] w fun e w' => e = .returned (.bool true) ∧ Below w.heap.size w w' := by
  have HBa := Lib.hid (keepB0 (below_al (w.alloc (.cells #[.int .i64 1, .string ⟨#[97]⟩, .slice none 0 0, .int .i64 2, .string ⟨#[97]⟩, .slice none 0 0] 24)) (.cells #[.int .i64 5, .string ⟨#[120]⟩, .int .i64 1, .int .i64 2, .slice none 0 0] 35)) (below_al w (.cells #[.int .i64 1, .string ⟨#[97]⟩, .slice none 0 0, .int .i64 2, .string ⟨#[97]⟩, .slice none 0 0] 24)))
  have HCV := Lib.hid (Kd.C_alloc (aw17_cV w) (.cells #[.int .i64 5, .string ⟨#[120]⟩, .int .i64 1, .int .i64 2, .slice none 0 0] 35))
  have HCE := Lib.hid (aw17_cE (w.alloc (.cells #[.int .i64 1, .string ⟨#[97]⟩, .slice none 0 0, .int .i64 2, .string ⟨#[97]⟩, .slice none 0 0] 24)))
  rw [alloc_size_] at HCE
  go_enter Try.func51, Try.ntmps51
  go_wp2_with (first
    | (go_at_call 53; refine (law17_built_calls _ _ 2 1 _ _ _ HCV.out HCE.out aw17_inV aw17_inE (by decide) (by decide)).mono ?_; rw [aw17_2, aw17_1]; rintro e w1 ⟨g, m1, m2, r, A1, c1, B1, d1, rfl, hG, hR, hb⟩; have HG1 := Lib.hid hG; have HR1 := Lib.hid hR; have HB1 := Lib.hid (show Below w.heap.size w w1 from HBa.out.trans (hb.mono HBa.out.size)); have kr := blk_cell hR.blk 1; simp only [List.getElem?_toArray, List.getElem?_cons_zero, List.getElem?_cons_succ] at kr; clear hG hR hb)
    | (go_at_call 54; refine (walk_New_calls g 2 _ (by decide) (by decide)).mono ?_; rintro e w2 ⟨wb, rfl, hwb, hK, hb⟩; have HK2 := Lib.hid hK; have HG2 := Lib.hid (HG1.out.below hb); have HB2 := Lib.hid (show Below w.heap.size w w2 from HB1.out.trans (hb.mono HB1.out.size)); have HW := Lib.hid (Nat.le_trans HB1.out.size hwb); clear hK hb)
    | (go_at_call 55; refine (walk_Next_calls _ g m1 m2 wb _ _ 2 false true 1 ⟨#[]⟩ _ HG2.out aw17_okE HK2.out (by decide) (by decide) (by decide)).mono ?_; rw [aw17_3, aw17_4, aw17_5]; rintro e w3 ⟨v3, rfl, hR3, hK3, hb⟩; have HG3 := Lib.hid (HG2.out.typed HK2.out (by decide) (by decide) hb); have HK3 := Lib.hid hK3; have HB3 := Lib.hid (hb.keep HB2.out (fun k hk => by rw [hk]; exact HW.out) (Nat.le_refl _)); have HR3 := Lib.hid hR3; obtain ⟨A3, c3, rfl⟩ := Kd.R_slice HR3.out; clear hR3 hK3 hb)
    | (go_at_call 92; refine (walk_Left_calls wb g 0 false _ HK3.out).mono ?_; rintro e w4 ⟨rfl, rfl⟩)
    | (go_at_call 93; refine (walk_Vertex_calls _ g m1 m2 wb _ _ 0 false 1 _ HG3.out HK3.out (by decide) (by decide) (by decide) (by decide)).mono ?_; rw [aw17_6, aw17_7, Bool.false_and]; rintro e w5 ⟨v5, rfl, hR5, hK5, hb⟩; obtain ⟨A5, c5, rfl⟩ := Kd.R_slice hR5; have HK5 := Lib.hid hK5; have HR5 := Lib.hid (Kd.R_reads' (R_walk HK3.out hb HR3.out)).2.2; have HB5 := Lib.hid (hb.keep HB3.out (fun k hk => by rw [hk]; exact HW.out) (Nat.le_refl _)); clear hR5 hK5 hb)
    | (go_at_call 63; refine (ref10_Ints_calls A3 _ c3 1 [2] [2] _ (Kd.C_alloc (Kd.C_alloc HR5.out _) _) ?hb).mono ?_; (case hb => exact C_boxg (Kd.int .i64) (by decide) _ _ (by simp) 2 #[.int .i64 2] _ rfl); rw [aw17_10]; rintro e w6 ⟨rfl, hq⟩; have hb6 := keepB0 (quiet_below hq _) (keepB0 (below_al _ (.cells #[.int .i64 2] 3)) (below_al w5 (.cells #[.int .i64 0, .string ⟨#[]⟩, .slice A5 0 c5] 24))); have HK6 := Lib.hid (blk_below hb6 HK5.out); have HB6 := Lib.hid (show Below w.heap.size w w6 from HB5.out.trans (hb6.mono HB5.out.size)); clear hq hb6)
    | (go_at_call 57; refine (walk_Spent_calls wb g _ true _ HK6.out).mono ?_; rintro e w7 ⟨rfl, rfl⟩))
  go_ret
  exact ⟨rfl, HB6.out⟩
end Go.Proofs.Ytonbnlfijmapfaa
/- cobweblaw17.WalkSides. No condition but on sizes. -/
namespace Go.Proofs.Ytonbnlfijmapfaa
open Go.RowKit Go.Shelf Go.Proofs.YtonbnlfijmapfaaW.PrintWords
set_option linter.unusedVariables false
set_option linter.unusedSimpArgs false

theorem next_ok {es : List SEdg} {left : Int} {n : Nat} (hn : es.length ≤ n) (hl : (n : Int) + 1 ≤ left) (id : Int) (out : Bool) : nextOk left false es id out = true ∧ left - (n + 1) ≤ nextLeft left false es id out ∧ nextLeft left false es id out ≤ left := by
  have h1 := endIds_length es id out
  have h2 : cost es id out ≤ n + 1 := by rw [cost]; omega
  have h3 : 0 ≤ cost es id out := by rw [cost]; omega
  have h4 : nextOk left false es id out = true := by simp [nextOk]; omega
  refine ⟨h4, ?_, ?_⟩ <;> rw [nextLeft, if_pos h4] <;> omega
theorem nextL_ok {es : List SEdg} {left : Int} {id : Int} {out : Bool} (h : nextOk left false es id out = true) (label : ByteArray) : nextL left false es id out label = nx es id out label := by rw [nextL, if_pos h]
theorem mem_nx {es : List SEdg} {id n : Int} {out : Bool} {label : ByteArray} : n ∈ nx es id out label ↔ ∃ e ∈ es, near out e = id ∧ okL label e = true ∧ far out e = n := by
  rw [nx, mem_sortU, List.mem_map]
  constructor
  · rintro ⟨e, he, h⟩
    rw [List.mem_filter, Bool.and_eq_true, decide_eq_true_eq] at he
    exact ⟨e, he.1, he.2.1, he.2.2, h⟩
  · rintro ⟨e, he, h1, h2, h3⟩
    exact ⟨e, List.mem_filter.2 ⟨he, by simp [h1, h2]⟩, h3⟩
theorem nx_length (es : List SEdg) (id : Int) (out : Bool) (label : ByteArray) : (nx es id out label).length ≤ es.length := by
  have h1 := sortU_length ((es.filter fun e => decide (near out e = id) && okL label e).map (far out))
  rw [List.length_map] at h1
  exact Nat.le_trans h1 (List.length_filter_le _ _)
theorem okL_self (e : SEdg) : okL e.f1 e = true := by simp [okL]
theorem okL_any (e : SEdg) : okL ⟨#[]⟩ e = true := by simp [okL]
/-- Keys not too great to be looked at. -/
def keysIn (vs : List SVert) (es : List SEdg) : Prop := (∀ x ∈ vs, fits x.f2) ∧ ∀ x ∈ es, fits x.f4
theorem in_of_small {n : Nat} {vs : List SVert} {es : List SEdg} (h : smallP n vs es = true) (hk : keysIn vs es) : inV vs ∧ inE es ∧ vs.length ≤ n ∧ es.length ≤ 60 := by
  simp only [smallP, Bool.and_eq_true, decide_eq_true_eq, List.all_eq_true, smV, smE] at h
  exact ⟨fun x hx => ⟨hk.1 x hx, by have := (h.2.1 x hx).2; omega⟩, fun x hx => ⟨hk.2 x hx, by have := (h.2.2 x hx).2; omega⟩, h.1.1, h.1.2⟩

set_option maxRecDepth 100000 in
set_option maxHeartbeats 32000000 in
theorem law17_WalkSides_calls (A B : Option Addr) (c d : Nat) (vs : List SVert) (es : List SEdg) (id : Int) (label : ByteArray) (w : World) (hv : kVert.C w A vs.length vs) (he : kEdg.C w B es.length es) (hk : keysIn vs es) :
    Calls Try.prog 9 #[.agg #[.slice A vs.length c, .slice B es.length d], .int .i64 id, .string label] w fun e w' => e = .returned (.bool true) ∧ Below w.heap.size w w' := by
  have HV := Lib.hid hv; clear hv
  have HE := Lib.hid he; clear he
  have HKI := Lib.hid hk; clear hk
  have HB0 := Lib.hid (below_al w (.cells #[.slice A vs.length c, .slice B es.length d] 88))
  have HP0 := Lib.hid (blk_new w #[.slice A vs.length c, .slice B es.length d] 88)
  have p1 : True := trivial
  have p2 : True := trivial
  have p1' : True := trivial
  cases h1 : smallP 40 vs es with
  | false =>
    go_enter Try.func9, Try.ntmps9
    go_wp2_with (first
      | (go_at_call 51; clear p1; refine (law17_awake_calls _).mono ?_; rintro e w1 ⟨rfl, hb⟩; have HB1 := Lib.hid (keepB0 hb HB0.out); have HP1 := Lib.hid (blk_below hb HP0.out); clear hb; have kp0 := blk_cell HP1.out 0; have kp1 := blk_cell HP1.out 1; simp only [List.getElem?_toArray, List.getElem?_cons_zero, List.getElem?_cons_succ] at kp0 kp1)
      | (go_at_call 52; refine (law17_small_calls A B c d vs es _ (Kd.C_below HV.out HB1.out) (Kd.C_below HE.out HB1.out)).mono ?_; rw [h1]; rintro e w2 ⟨rfl, hb⟩; have HB2 := Lib.hid (keepB0 hb HB1.out); have HP2 := Lib.hid (blk_below hb HP1.out); clear hb; have kp20 := blk_cell HP2.out 0; have kp21 := blk_cell HP2.out 1; simp only [List.getElem?_toArray, List.getElem?_cons_zero, List.getElem?_cons_succ] at kp20 kp21)
      | (go_at_call 51; clear p2; refine (law17_awake_calls _).mono ?_; rintro e w3 ⟨rfl, hb⟩; have HB3 := Lib.hid (keepB0 hb HB2.out); clear hb))
    go_ret
    exact ⟨rfl, HB3.out⟩
  | true =>
  by_cases h2 : label.size ≤ 100
  · have h2' : ¬ (100 : Int) < (label.size : Int) := by omega
    obtain ⟨hiv, hie, hvl, hel⟩ := in_of_small h1 HKI.out
    have hEl : (layE (layV [] vs) [] es).length ≤ 60 := by have := layE_length (layV [] vs) es []; simp at this; omega
    have HOE := Lib.hid (okE_lay (layV [] vs) es okE_nil)
    have HBu := Lib.hid (fun W (hW : Below w.heap.size w W) => law17_built_calls A B c d vs es W (Kd.C_below HV.out hW) (Kd.C_below HE.out hW) hiv hie (by omega) (by omega))
    generalize layE (layV [] vs) [] es = ES at hEl HOE HBu
    generalize layV [] vs = VS at HBu
    obtain ⟨hn1, hl1, hu1⟩ := next_ok (left := 1048576) hEl (by omega) id true
    have HL1 := Lib.hid (nextL_ok hn1 label)
    obtain ⟨z1, hz1⟩ : ∃ z, nextLeft 1048576 false ES id true = z := ⟨_, rfl⟩
    rw [hz1] at hl1 hu1
    obtain ⟨hn2, hl2, hu2⟩ := next_ok (left := z1) hEl (by omega) id true
    have HL2 := Lib.hid (nextL_ok hn2 ⟨#[]⟩)
    obtain ⟨z2, hz2⟩ : ∃ z, nextLeft z1 false ES id true = z := ⟨_, rfl⟩
    rw [hz2] at hl2 hu2
    have HZ := Lib.hid (And.intro hz1 (And.intro hz2 (And.intro hn1 hn2)))
    clear hz1 hz2 hn1 hn2
    go_enter Try.func9, Try.ntmps9
    go_wp2_with (first
      | (go_at_call 51; clear p1; refine (law17_awake_calls _).mono ?_; rintro e w1 ⟨rfl, hb⟩; have HB1 := Lib.hid (keepB0 hb HB0.out); have HP1 := Lib.hid (blk_below hb HP0.out); clear hb; have kp0 := blk_cell HP1.out 0; have kp1 := blk_cell HP1.out 1; simp only [List.getElem?_toArray, List.getElem?_cons_zero, List.getElem?_cons_succ] at kp0 kp1)
      | (go_at_call 52; refine (law17_small_calls A B c d vs es _ (Kd.C_below HV.out HB1.out) (Kd.C_below HE.out HB1.out)).mono ?_; rw [h1]; rintro e w2 ⟨rfl, hb⟩; have HB2 := Lib.hid (keepB0 hb HB1.out); have HP2 := Lib.hid (blk_below hb HP1.out); clear hb; have kp20 := blk_cell HP2.out 0; have kp21 := blk_cell HP2.out 1; simp only [List.getElem?_toArray, List.getElem?_cons_zero, List.getElem?_cons_succ] at kp20 kp21)
      | (go_at_call 53; refine (HBu.out _ HB2.out).mono ?_; rintro e w3 ⟨g, m1, m2, r, A3, c3, B3, d3, rfl, hG, hR, hb⟩; have HG3 := Lib.hid hG; have HR3 := Lib.hid hR.bound; have HRL := Lib.hid hR.lt; have HB3 := Lib.hid (show Below w.heap.size w w3 from HB2.out.trans (hb.mono HB2.out.size)); clear hG hR hb)
      | (go_at_call 54; refine (walk_New_calls g 1048576 _ (by decide) (by decide)).mono ?_; rintro e w4 ⟨wb, rfl, hwb, hK, hb⟩; have HWB := Lib.hid hwb; have HK4 := Lib.hid hK; have HG4 := Lib.hid (HG3.out.below hb); have HR4 := Lib.hid (HR3.out.below hb); have HB4 := Lib.hid (show Below w.heap.size w w4 from HB3.out.trans (hb.mono HB3.out.size)); have HW := Lib.hid (Nat.le_trans HB3.out.size hwb); clear hwb hK hb)
      | (go_at_call 55; clear p2; refine (walk_Next_calls _ g m1 m2 wb _ _ 1048576 false true id label _ HG4.out HOE.out HK4.out (by decide) (by decide) (by omega)).mono ?_; rw [HZ.out.1, HZ.out.2.2.1, HL1.out]; rintro e w5 ⟨v5, rfl, hR5, hK5, hb⟩; obtain ⟨A5, c5, rfl⟩ := Kd.R_slice hR5; have HG5 := Lib.hid (HG4.out.typed HK4.out (by decide) (by decide) hb); have HK5 := Lib.hid hK5; have HB5 := Lib.hid hb; have HI5 := Lib.hid hR5; clear hR5 hK5 hb)
      | (go_at_call 55; refine (walk_Next_calls _ g m1 m2 wb _ _ z1 false true id ⟨#[]⟩ _ HG5.out HOE.out HK5.out (by omega) (by omega) (by omega)).mono ?_; rw [HZ.out.2.1, HZ.out.2.2.2, HL2.out]; rintro e w6 ⟨v6, rfl, hR6, hK6, hb⟩; obtain ⟨A6, c6, rfl⟩ := Kd.R_slice hR6; have HG6 := Lib.hid (HG5.out.typed HK5.out (by decide) (by decide) hb); have HK6 := Lib.hid hK6; have HI6 := Lib.hid (R_walk HK5.out hb HI5.out); have HJ6 := Lib.hid hR6; have HB6 := Lib.hid (HB5.out.trans hb); clear hR6 hK6 hb))
    have HWW := Lib.hid (show Below w.heap.size w w6 from HB6.out.keep HB4.out (fun k hk => by rw [hk]; exact HW.out) (Nat.le_refl _))
    have HR6 := Lib.hid (show RefAt w6 (fun k => k ≠ r ∧ k < w3.heap.size) r A3 c3 B3 d3 VS ES from HR4.out.but HB6.out (fun k hk e => by have h1 := hk.2; have h2 := HWB.out; have h3 : k = wb := e; omega) (fun e => by have := HRL.out; have := HWB.out; omega))
    have HREF : Hid (∀ W, But (fun k => k = wb) w6 W → RefAt W (fun k => k ≠ r ∧ k < w3.heap.size) r A3 c3 B3 d3 VS ES) := Lib.hid (fun W hW => HR6.out.but hW (fun k hk e => by have h1 := hk.2; have h2 := HWB.out; have h3 : k = wb := e; omega) (fun e => by have := HRL.out; have := HWB.out; omega))
    clear HR3 HR4 HR6 HG3 HG4 HG5 HI5 HB5 HB6
    have hll := nx_length ES id true label
    have hal := nx_length ES id true ⟨#[]⟩
    obtain ⟨L, hL⟩ : ∃ L, nx ES id true label = L := ⟨_, rfl⟩
    obtain ⟨M, hM⟩ : ∃ M, nx ES id true ⟨#[]⟩ = M := ⟨_, rfl⟩
    rw [hL] at hll HI6
    rw [hM] at hal HJ6
    have HL := Lib.hid (show ∀ n, n ∈ L ↔ ∃ e ∈ ES, e.f2 = id ∧ okL label e = true ∧ e.f3 = n from fun n => by rw [← hL]; exact mem_nx)
    have HM := Lib.hid (show ∀ n, n ∈ M ↔ ∃ e ∈ ES, e.f2 = id ∧ okL ⟨#[]⟩ e = true ∧ e.f3 = n from fun n => by rw [← hM]; exact mem_nx)
    rw [hL, hM]
    clear hL hM HL1 HL2 HZ
    go_loopw [13] (fun v13 wr => ∃ (i : Nat) (left : Int), i ≤ L.length ∧ v13 = .int .i64 i ∧ 1048454 - 61 * (i : Int) ≤ left ∧ left ≤ 1048576 ∧ Hid (WalkAt wr wb g left false) ∧ Hid (But (fun k => k = wb) w6 wr)) (fun v13 _ => L.length - (intOf v13).toNat)
    case atStart => exact ⟨0, z2, by omega, rfl, by omega, by omega, HK6, Lib.hid (But.refl _ _)⟩
    case round =>
      obtain ⟨i, left, hi, rfl, hlo, hhi, HK, HB⟩ := hrel
      have HI := Lib.hid (R_walk HK6.out HB.out HI6.out)
      have HJ := Lib.hid (R_walk HK6.out HB.out HJ6.out)
      by_cases hlt : i < L.length
      · have hlt2 : (i : Int) < (L.length : Int) := by omega
        obtain ⟨ad, rfl, g0⟩ := Kd.at_int (Kd.R_reads' HI.out).2.2 (i : Int) (by omega) (by omega)
        simp only [Int.toNat_natCast, rd] at g0
        have hmem : L.getD i 0 ∈ L := by simp [List.getD_eq_getElem?_getD, List.getElem?_eq_getElem hlt]
        obtain ⟨e, he1, he2, he3, he4⟩ := (HL.out _).1 hmem
        have hb1 : id ∈ nx ES (L.getD i 0) false label := mem_nx.2 ⟨e, he1, he4, he3, he2⟩
        have hb2 : L.getD i 0 ∈ M := (HM.out _).2 ⟨e, he1, he2, okL_any e, he4⟩
        obtain ⟨x, hx⟩ : ∃ x, L.getD i 0 = x := ⟨_, rfl⟩
        rw [hx] at g0 hb1 hb2
        have HX := Lib.hid hx
        clear hx
        obtain ⟨hn, hl, hu⟩ := next_ok (left := left) hEl (by omega) x false
        have HLx := Lib.hid (nextL_ok hn label)
        have HN := Lib.hid hn
        have HG := Lib.hid (HG6.out.typed HK6.out (by decide) (by decide) HB.out)
        clear hmem he4 he1 he2 he3 hn
        go_wp2_with (first
          | (go_at_call 55; refine (walk_Next_calls _ g m1 m2 wb _ _ left false false x label _ HG.out HOE.out HK.out (by omega) (by omega) (by omega)).mono ?_; rw [HN.out, HLx.out]; rintro e w7 ⟨v7, rfl, hR7, hK7, hb⟩; obtain ⟨A7, c7, rfl⟩ := Kd.R_slice hR7; have HK7 := Lib.hid hK7; have HB7 := Lib.hid (HB.out.trans hb); have HC7 := Lib.hid (Kd.R_reads' hR7).2.2; have hI7 := R_walk HK.out hb HI.out; have hJ7 := R_walk HK.out hb HJ.out; have HJ7 := Lib.hid hJ7; obtain ⟨ad7, e7, g7⟩ := Kd.at_int (Kd.R_reads' hI7).2.2 (i : Int) (by omega) (by omega); cases e7; simp only [Int.toNat_natCast, rd] at g7; rw [HX.out] at g7; clear hR7 hK7 hb hI7 hJ7)
          | (go_at_call 56; clear p1'; refine (ref10_Has_calls A7 c7 _ id _ HC7.out).mono ?_; rw [decide_eq_true hb1]; rintro e w8 ⟨rfl, rfl⟩)
          | (go_at_call 56; refine (ref10_Has_calls A6 c6 M x _ (Kd.R_reads' HJ7.out).2.2).mono ?_; rw [decide_eq_true hb2]; rintro e w8 ⟨rfl, rfl⟩))
        exact ⟨⟨i + 1, nextLeft left false ES x false, by omega, by go_num, by omega, by omega, HK7, HB7⟩, by simp [intOf]; omega⟩
      · have hlt2 : ¬ (i : Int) < (L.length : Int) := by omega
        have hlo2 : 1044794 ≤ left := by omega
        have HK9 := HK
        have HB9 := HB
        clear HK HB HI HJ hlo
        go_wp2
        go_loopw [15] (fun v15 wr => ∃ (j : Nat) (left : Int), j ≤ M.length ∧ v15 = .int .i64 j ∧ 1044794 - 3660 * (j : Int) ≤ left ∧ left ≤ 1048576 ∧ Hid (WalkAt wr wb g left false) ∧ Hid (But (fun k => k = wb) w6 wr)) (fun v15 _ => M.length - (intOf v15).toNat)
        case atStart => exact ⟨0, left, by omega, rfl, by omega, hhi, HK9, HB9⟩
        case round =>
          obtain ⟨j, left1, hj, rfl, hlo1, hhi1, HK, HB⟩ := hrel
          have HJ := Lib.hid (R_walk HK6.out HB.out HJ6.out)
          by_cases hlj : j < M.length
          · have hlj2 : (j : Int) < (M.length : Int) := by omega
            have hmem : M.getD j 0 ∈ M := by simp [List.getD_eq_getElem?_getD, List.getElem?_eq_getElem hlj]
            have HEX := Lib.hid ((HM.out _).1 hmem)
            obtain ⟨x, hx⟩ : ∃ x, M.getD j 0 = x := ⟨_, rfl⟩
            rw [hx] at HEX
            have HX := Lib.hid hx
            clear hx hmem
            go_wp2
            go_loopw [16, 17] (fun v16 v17 wr => ∃ (k : Nat) (left : Int), k ≤ ES.length ∧ v17 = .int .i64 k ∧ v16 = .bool ((ES.take k).any fun e => decide (e.f2 = id) && decide (e.f3 = x)) ∧ 1044794 - 3660 * (j : Int) - 61 * (k : Int) ≤ left ∧ left ≤ 1048576 ∧ Hid (WalkAt wr wb g left false) ∧ Hid (But (fun k => k = wb) w6 wr)) (fun _ v17 _ => ES.length - (intOf v17).toNat)
            case atStart => exact ⟨0, left1, by omega, rfl, rfl, by omega, hhi1, HK, HB⟩
            case round =>
              obtain ⟨k, left2, hk, rfl, rfl, hlo2', hhi2, HKk, HBk⟩ := hrel
              have HRk := HREF.out wr HBk.out
              have kr := blk_cell HRk.blk 1
              simp only [List.getElem?_toArray, List.getElem?_cons_zero, List.getElem?_cons_succ] at kr
              by_cases hlk : k < ES.length
              · have hlk2 : (k : Int) < (ES.length : Int) := by omega
                obtain ⟨ad, A8, c8, rfl, g0, g1, g2, g3, g4, -⟩ := at_Edg (Kd.F_now HRk.er) (k : Int) (by omega) (by omega)
                simp only [Int.toNat_natCast, rd_Edg] at g0 g1 g2 g3 g4
                obtain ⟨ad6, e6, h0⟩ := Kd.at_int (Kd.R_reads' (R_walk HK6.out HBk.out HJ6.out)).2.2 (j : Int) (by omega) (by omega)
                cases e6
                simp only [Int.toNat_natCast, rd] at h0
                rw [HX.out] at h0
                have HT := Lib.hid (take_more ES k zEdg hlk)
                have hmem : ES.getD k zEdg ∈ ES := by simp [List.getD_eq_getElem?_getD, List.getElem?_eq_getElem hlk]
                have HCELLS : Hid (∀ W, But (fun k => k = wb) w6 W → W.cell? ⟨r, 1, none⟩ = some (.slice (some ad) ES.length d3) ∧ W.cell? ⟨(ad.add (k * 5)).block, (ad.add (k * 5)).off + 1, none⟩ = some (.string (ES.getD k zEdg).f1) ∧ W.cell? (ad6.add j) = some (.int .i64 x)) := Lib.hid (fun W hW => by
                  have q1 := blk_cell (HREF.out W hW).blk 1
                  simp only [List.getElem?_toArray, List.getElem?_cons_zero, List.getElem?_cons_succ] at q1
                  obtain ⟨ad', A8, c8, e8, -, q2, -⟩ := at_Edg (Kd.F_now (HREF.out W hW).er) (k : Int) (by omega) (by omega)
                  cases e8
                  simp only [Int.toNat_natCast, rd_Edg] at q2
                  obtain ⟨ad6', e6', q3⟩ := Kd.at_int (Kd.R_reads' (R_walk HK6.out hW HJ6.out)).2.2 (j : Int) (by omega) (by omega)
                  cases e6'
                  simp only [Int.toNat_natCast, rd] at q3
                  rw [HX.out] at q3
                  exact ⟨q1, q2, q3⟩)
                obtain ⟨Y, hY⟩ : ∃ Y, ES.getD k zEdg = Y := ⟨_, rfl⟩
                rw [hY] at g0 g1 g2 g3 g4 HT HCELLS hmem
                clear hY
                obtain ⟨y0, y1, y2, y3, y4⟩ := Y
                simp only at g0 g1 g2 g3 g4 HCELLS
                have HAN : Hid (((ES.take (k + 1)).any fun e => decide (e.f2 = id) && decide (e.f3 = x)) = (((ES.take k).any fun e => decide (e.f2 = id) && decide (e.f3 = x)) || (decide (y2 = id) && decide (y3 = x)))) := Lib.hid (by rw [HT.out, List.any_append]; simp)
                generalize ((ES.take k).any fun e => decide (e.f2 = id) && decide (e.f3 = x)) = found at HAN ⊢
                by_cases ha : y2 = id
                · subst ha
                  by_cases hb : y3 = x
                  · subst hb
                    have hE1 : (y2 == y2) = true := by simp
                    have hE2 : (y3 == y3) = true := by simp
                    cases found with
                    | true =>
                      go_wp2_with fail
                      go_big_quiet (fail)
                      go_wp2_with fail
                      go_big_quiet (fail)
                      go_wp2
                      go_roundw
                      case rel => exact ⟨k + 1, left2, by omega, by go_num, by rw [HAN.out]; simp, by omega, by omega, Lib.hid (blk_below (pw_below_drewN (Below.refl _ _) _) HKk.out), Lib.hid (HBk.out.trans (But.of_below _ (pw_below_drewN (Below.refl _ _) _)))⟩
                      case measure => simp [intOf]; omega
                    | false =>
                      have hb2 : y3 ∈ nx ES y2 true y1 := mem_nx.2 ⟨⟨y0, y1, y2, y3, y4⟩, hmem, rfl, okL_self ⟨y0, y1, y2, y3, y4⟩, rfl⟩
                      obtain ⟨hn, hl, hu⟩ := next_ok (left := left2) hEl (by omega) y2 true
                      have HLx := Lib.hid (nextL_ok hn y1)
                      have HN := Lib.hid hn
                      clear hn hmem
                      go_wp2_with fail
                      go_big_quiet (fail)
                      have HBq := Lib.hid (HBk.out.trans (But.of_below _ (pw_below_drewN (Below.refl _ wr) nq)))
                      have HKq := Lib.hid (blk_below (pw_below_drewN (Below.refl _ wr) nq) HKk.out)
                      clear g0 g1 g2 g3 g4 h0 kr HRk
                      generalize wr.drewN nq = wq at HBq HKq ⊢
                      have HKq2 : Hid (WalkAt wq.drew wb g left2 false) := Lib.hid (blk_drew HKq.out)
                      have HGq := Lib.hid (HG6.out.typed HK6.out (by decide) (by decide) (HBq.out.trans (But.of_below _ (below_drew (Below.refl wq.heap.size wq)))))
                      go_wp2_with fail
                      refine wp_region_held_drew (S := (fun W => But (fun k => k = wb) w6 W)) (by kernel_rfl) ?hS101 (fun hH0 => ?_)
                      case hS101 => exact HBq.out.trans (But.of_below _ (below_drew (Below.refl _ _)))
                      refine takeY (oi := { dst := some 121, op := Op.move (Operand.tmp 16), type := 4, pos := "law.go:186", after := #[], guard := none }) 0 (some 121) (v := ?v0_102) rfl rfl (by kernel_rfl) (by kernel_rfl) (by kernel_rfl) (fun _ _ _ h => h) (by kernel_rfl) ?hy102 hH0 ?_
                      case hy102 => (intro w_ hSw; (try dsimp only at hSw); (obtain ⟨z0, z1, z2⟩ := HCELLS.out _ hSw; go_simp; (first | done | with_reducible rfl)))
                      simp only [Act.put, List.setIfInBounds_toArray, List.set_cons_zero, List.set_cons_succ]
                      refine takeY (oi := { dst := some 122, op := Op.move (Operand.tmp 121), type := 4, pos := "law.go:186", after := #[{ on := 0, ground := Ground.data }], guard := none }) 1 (some 122) (v := ?v1_103) rfl rfl (by kernel_rfl) (by kernel_rfl) (by kernel_rfl) (fun _ _ _ h => h) (by kernel_rfl) ?hy103 hH0 ?_
                      case hy103 => (intro w_ hSw; (try dsimp only at hSw); (obtain ⟨z0, z1, z2⟩ := HCELLS.out _ hSw; go_simp; (first | done | with_reducible rfl)))
                      simp only [Act.put, List.setIfInBounds_toArray, List.set_cons_zero, List.set_cons_succ]
                      refine takeY (oi := { dst := some 123, op := Op.move (Operand.tmp 9), type := 92, pos := "law.go:186", after := #[{ on := 1, ground := Ground.guard }], guard := some (1, false) }) 2 (some 123) (v := ?v2_104) rfl rfl (by kernel_rfl) (by kernel_rfl) (by kernel_rfl) (fun _ _ _ h => h) (by kernel_rfl) ?hy104 hH0 ?_
                      case hy104 => (intro w_ hSw; (try dsimp only at hSw); (obtain ⟨z0, z1, z2⟩ := HCELLS.out _ hSw; go_simp; (first | done | with_reducible rfl)))
                      simp only [Act.put, List.setIfInBounds_toArray, List.set_cons_zero, List.set_cons_succ]
                      refine takeY (oi := { dst := some 124, op := Op.move (Operand.tmp 1), type := 3, pos := "law.go:186", after := #[{ on := 1, ground := Ground.guard }], guard := some (1, false) }) 3 (some 124) (v := ?v3_105) rfl rfl (by kernel_rfl) (by kernel_rfl) (by kernel_rfl) (fun _ _ _ h => h) (by kernel_rfl) ?hy105 hH0 ?_
                      case hy105 => (intro w_ hSw; (try dsimp only at hSw); (obtain ⟨z0, z1, z2⟩ := HCELLS.out _ hSw; go_simp; (first | done | with_reducible rfl)))
                      simp only [Act.put, List.setIfInBounds_toArray, List.set_cons_zero, List.set_cons_succ]
                      refine takeY (oi := { dst := some 125, op := Op.move (Operand.tmp 8), type := 89, pos := "law.go:186", after := #[{ on := 1, ground := Ground.guard }], guard := some (1, false) }) 4 (some 125) (v := ?v4_106) rfl rfl (by kernel_rfl) (by kernel_rfl) (by kernel_rfl) (fun _ _ _ h => h) (by kernel_rfl) ?hy106 hH0 ?_
                      case hy106 => (intro w_ hSw; (try dsimp only at hSw); (obtain ⟨z0, z1, z2⟩ := HCELLS.out _ hSw; go_simp; (first | done | with_reducible rfl)))
                      simp only [Act.put, List.setIfInBounds_toArray, List.set_cons_zero, List.set_cons_succ]
                      refine takeY (oi := { dst := some 126, op := Op.nilCheck (Operand.tmp 125), type := 0, pos := "law.go:186", after := #[{ on := 4, ground := Ground.data }, { on := 1, ground := Ground.guard }], guard := some (1, false) }) 5 (some 126) (v := ?v5_107) rfl rfl (by kernel_rfl) (by kernel_rfl) (by kernel_rfl) (fun _ _ _ h => h) (by kernel_rfl) ?hy107 hH0 ?_
                      case hy107 => (intro w_ hSw; (try dsimp only at hSw); (obtain ⟨z0, z1, z2⟩ := HCELLS.out _ hSw; go_simp; (first | done | with_reducible rfl)))
                      simp only [Act.put, List.setIfInBounds_toArray, List.set_cons_zero, List.set_cons_succ]
                      refine takeY (oi := { dst := some 127, op := Op.fieldAddr 97 (Operand.tmp 126) 1, type := 0, pos := "law.go:186", after := #[{ on := 5, ground := Ground.data }, { on := 1, ground := Ground.guard }], guard := some (1, false) }) 6 (some 127) (v := ?v6_108) rfl rfl (by kernel_rfl) (by kernel_rfl) (by kernel_rfl) (fun _ _ _ h => h) (by kernel_rfl) ?hy108 hH0 ?_
                      case hy108 => (intro w_ hSw; (try dsimp only at hSw); (obtain ⟨z0, z1, z2⟩ := HCELLS.out _ hSw; go_simp; (first | done | with_reducible rfl)))
                      simp only [Act.put, List.setIfInBounds_toArray, List.set_cons_zero, List.set_cons_succ]
                      refine takeY (oi := { dst := some 128, op := Op.load 72 (Operand.tmp 127), type := 72, pos := "law.go:186", after := #[{ on := 6, ground := Ground.data }, { on := 1, ground := Ground.guard }], guard := some (1, false) }) 7 (some 128) (v := ?v7_109) rfl rfl (by kernel_rfl) (by kernel_rfl) (by kernel_rfl) (fun _ _ _ h => h) (by kernel_rfl) ?hy109 hH0 ?_
                      case hy109 => (intro w_ hSw; (try dsimp only at hSw); (obtain ⟨z0, z1, z2⟩ := HCELLS.out _ hSw; go_simp; (first | done | with_reducible rfl)))
                      simp only [Act.put, List.setIfInBounds_toArray, List.set_cons_zero, List.set_cons_succ]
                      refine takeY (oi := { dst := some 129, op := Op.move (Operand.tmp 17), type := 3, pos := "law.go:186", after := #[{ on := 1, ground := Ground.guard }], guard := some (1, false) }) 8 (some 129) (v := ?v8_110) rfl rfl (by kernel_rfl) (by kernel_rfl) (by kernel_rfl) (fun _ _ _ h => h) (by kernel_rfl) ?hy110 hH0 ?_
                      case hy110 => (intro w_ hSw; (try dsimp only at hSw); (obtain ⟨z0, z1, z2⟩ := HCELLS.out _ hSw; go_simp; (first | done | with_reducible rfl)))
                      simp only [Act.put, List.setIfInBounds_toArray, List.set_cons_zero, List.set_cons_succ]
                      refine takeY (oi := { dst := some 130, op := Op.indexAddr 72 (Operand.tmp 128) (Operand.tmp 129), type := 0, pos := "law.go:186", after := #[{ on := 7, ground := Ground.data }, { on := 8, ground := Ground.data }, { on := 1, ground := Ground.guard }], guard := some (1, false) }) 9 (some 130) (v := ?v9_111) rfl rfl (by kernel_rfl) (by kernel_rfl) (by kernel_rfl) (fun _ _ _ h => h) (by kernel_rfl) ?hy111 hH0 ?_
                      case hy111 => (intro w_ hSw; (try dsimp only at hSw); (obtain ⟨z0, z1, z2⟩ := HCELLS.out _ hSw; go_simp; (first | done | with_reducible rfl)))
                      simp only [Act.put, List.setIfInBounds_toArray, List.set_cons_zero, List.set_cons_succ]
                      refine takeY (oi := { dst := some 131, op := Op.fieldAddr 35 (Operand.tmp 130) 1, type := 0, pos := "law.go:186", after := #[{ on := 9, ground := Ground.data }, { on := 1, ground := Ground.guard }], guard := some (1, false) }) 10 (some 131) (v := ?v10_112) rfl rfl (by kernel_rfl) (by kernel_rfl) (by kernel_rfl) (fun _ _ _ h => h) (by kernel_rfl) ?hy112 hH0 ?_
                      case hy112 => (intro w_ hSw; (try dsimp only at hSw); (obtain ⟨z0, z1, z2⟩ := HCELLS.out _ hSw; go_simp; (first | done | with_reducible rfl)))
                      simp only [Act.put, List.setIfInBounds_toArray, List.set_cons_zero, List.set_cons_succ]
                      refine takeY (oi := { dst := some 132, op := Op.load 9 (Operand.tmp 131), type := 9, pos := "law.go:186", after := #[{ on := 10, ground := Ground.data }, { on := 1, ground := Ground.guard }], guard := some (1, false) }) 11 (some 132) (v := ?v11_113) rfl rfl (by kernel_rfl) (by kernel_rfl) (by kernel_rfl) (fun _ _ _ h => h) (by kernel_rfl) ?hy113 hH0 ?_
                      case hy113 => (intro w_ hSw; (try dsimp only at hSw); (obtain ⟨z0, z1, z2⟩ := HCELLS.out _ hSw; go_simp; (first | done | with_reducible rfl)))
                      simp only [Act.put, List.setIfInBounds_toArray, List.set_cons_zero, List.set_cons_succ]
                      refine takeY (oi := { dst := some 134, op := Op.move (Operand.tmp 12), type := 49, pos := "law.go:186", after := #[{ on := 1, ground := Ground.guard }], guard := some (1, false) }) 13 (some 134) (v := ?v13_114) rfl rfl (by kernel_rfl) (by kernel_rfl) (by kernel_rfl) (fun _ _ _ h => h) (by kernel_rfl) ?hy114 hH0 ?_
                      case hy114 => (intro w_ hSw; (try dsimp only at hSw); (obtain ⟨z0, z1, z2⟩ := HCELLS.out _ hSw; go_simp; (first | done | with_reducible rfl)))
                      simp only [Act.put, List.setIfInBounds_toArray, List.set_cons_zero, List.set_cons_succ]
                      refine takeY (oi := { dst := some 135, op := Op.move (Operand.tmp 15), type := 3, pos := "law.go:186", after := #[{ on := 1, ground := Ground.guard }], guard := some (1, false) }) 14 (some 135) (v := ?v14_115) rfl rfl (by kernel_rfl) (by kernel_rfl) (by kernel_rfl) (fun _ _ _ h => h) (by kernel_rfl) ?hy115 hH0 ?_
                      case hy115 => (intro w_ hSw; (try dsimp only at hSw); (obtain ⟨z0, z1, z2⟩ := HCELLS.out _ hSw; go_simp; (first | done | with_reducible rfl)))
                      simp only [Act.put, List.setIfInBounds_toArray, List.set_cons_zero, List.set_cons_succ]
                      refine takeY (oi := { dst := some 136, op := Op.indexAddr 49 (Operand.tmp 134) (Operand.tmp 135), type := 0, pos := "law.go:186", after := #[{ on := 13, ground := Ground.data }, { on := 14, ground := Ground.data }, { on := 1, ground := Ground.guard }], guard := some (1, false) }) 15 (some 136) (v := ?v15_116) rfl rfl (by kernel_rfl) (by kernel_rfl) (by kernel_rfl) (fun _ _ _ h => h) (by kernel_rfl) ?hy116 hH0 ?_
                      case hy116 => (intro w_ hSw; (try dsimp only at hSw); (obtain ⟨z0, z1, z2⟩ := HCELLS.out _ hSw; go_simp; (first | done | with_reducible rfl)))
                      simp only [Act.put, List.setIfInBounds_toArray, List.set_cons_zero, List.set_cons_succ]
                      refine takeY (oi := { dst := some 137, op := Op.load 3 (Operand.tmp 136), type := 3, pos := "law.go:186", after := #[{ on := 15, ground := Ground.data }, { on := 1, ground := Ground.guard }], guard := some (1, false) }) 16 (some 137) (v := ?v16_117) rfl rfl (by kernel_rfl) (by kernel_rfl) (by kernel_rfl) (fun _ _ _ h => h) (by kernel_rfl) ?hy117 hH0 ?_
                      case hy117 => (intro w_ hSw; (try dsimp only at hSw); (obtain ⟨z0, z1, z2⟩ := HCELLS.out _ hSw; go_simp; (first | done | with_reducible rfl)))
                      simp only [Act.put, List.setIfInBounds_toArray, List.set_cons_zero, List.set_cons_succ]
                      refine wpAnyH_ready (rs := [12]) (by kernel_rfl) (by simp) ?_
                      refine AllReadyH.cons (o := { dst := some 133, op := Op.call { callee := Callee.value (Operand.func 55), args := #[Operand.tmp 123, Operand.tmp 124, Operand.const (Value.bool true), Operand.tmp 132], argTypes := #[92, 3, 4, 9] }, type := 49, pos := "law.go:186", after := #[{ on := 2, ground := Ground.data }, { on := 3, ground := Ground.data }, { on := 11, ground := Ground.data }, { on := 1, ground := Ground.chain }, { on := 1, ground := Ground.guard }], guard := some (1, false) }) rfl (fun K1 hK1 => ?_) AllReadyH.nil
                      go_simp; refine (walk_Next_calls _ g m1 m2 wb _ _ left2 false true y2 y1 _ HGq.out HOE.out HKq2.out (by omega) (by omega) (by omega)).mono ?_; rw [HN.out, HLx.out]; rintro e w7 ⟨v7, rfl, hR7, hK7, hb7⟩; obtain ⟨A7, c7, rfl⟩ := Kd.R_slice hR7
                      refine hK1.out _ _ ?hS118 (fun hH1 => ?_)
                      case hS118 => ((try dsimp only); (exact hH0.trans hb7))
                      clear hK1 K1
                      (try clear hH0)
                      (try simp only [Act.put, List.setIfInBounds_toArray, List.set_cons_zero, List.set_cons_succ])
                      refine wpAnyH_ready (rs := [17]) (by kernel_rfl) (by simp) ?_
                      refine AllReadyH.cons (o := { dst := some 138, op := Op.call { callee := Callee.value (Operand.func 56), args := #[Operand.tmp 133, Operand.tmp 137], argTypes := #[49, 3] }, type := 4, pos := "law.go:186", after := #[{ on := 12, ground := Ground.data }, { on := 16, ground := Ground.data }, { on := 12, ground := Ground.chain }, { on := 1, ground := Ground.guard }], guard := some (1, false) }) rfl (fun K2 hK2 => ?_) AllReadyH.nil
                      go_simp; refine (ref10_Has_calls A7 c7 _ y3 _ (Kd.R_reads' hR7).2.2).mono ?_; rw [decide_eq_true hb2]; rintro e w8 ⟨rfl, rfl⟩
                      refine hK2.out _ _ ?hS119 (fun hH2 => ?_)
                      case hS119 => ((try dsimp only); (exact hH1))
                      clear hK2 K2
                      (try clear hH1)
                      (try simp only [Act.put, List.setIfInBounds_toArray, List.set_cons_zero, List.set_cons_succ])
                      refine takeY (oi := { dst := some 139, op := Op.pick (Operand.tmp 122) (Operand.const (Value.bool true)) (Operand.tmp 138), type := 4, pos := "law.go:186", after := #[{ on := 1, ground := Ground.data }, { on := 17, ground := Ground.data }], guard := none }) 18 (some 139) (v := ?v18_120) rfl rfl (by kernel_rfl) (by kernel_rfl) (by kernel_rfl) (fun _ _ _ h => h) (by kernel_rfl) ?hy120 hH2 ?_
                      case hy120 => (intro w_ hSw; (try dsimp only at hSw); (obtain ⟨z0, z1, z2⟩ := HCELLS.out _ hSw; go_simp; (first | done | with_reducible rfl)))
                      simp only [Act.put, List.setIfInBounds_toArray, List.set_cons_zero, List.set_cons_succ]
                      refine takeY (oi := { dst := some 16, op := Op.assign (Operand.tmp 139), type := 4, pos := "law.go:186", after := #[{ on := 18, ground := Ground.data }, { on := 17, ground := Ground.chain }, { on := 0, ground := Ground.phase }, { on := 1, ground := Ground.phase }, { on := 2, ground := Ground.phase }, { on := 3, ground := Ground.phase }, { on := 4, ground := Ground.phase }, { on := 5, ground := Ground.phase }, { on := 6, ground := Ground.phase }, { on := 7, ground := Ground.phase }, { on := 8, ground := Ground.phase }, { on := 9, ground := Ground.phase }, { on := 10, ground := Ground.phase }, { on := 11, ground := Ground.phase }, { on := 12, ground := Ground.phase }, { on := 13, ground := Ground.phase }, { on := 14, ground := Ground.phase }, { on := 15, ground := Ground.phase }, { on := 16, ground := Ground.phase }, { on := 17, ground := Ground.phase }, { on := 18, ground := Ground.phase }], guard := none }) 19 (some 16) (v := ?v19_121) rfl rfl (by kernel_rfl) (by kernel_rfl) (by kernel_rfl) (fun _ _ _ h => h) (by kernel_rfl) ?hy121 hH2 ?_
                      case hy121 => (intro w_ hSw; (try dsimp only at hSw); (obtain ⟨z0, z1, z2⟩ := HCELLS.out _ hSw; go_simp; (first | done | with_reducible rfl)))
                      simp only [Act.put, List.setIfInBounds_toArray, List.set_cons_zero, List.set_cons_succ]
                      refine wpAnyH_done (by kernel_rfl) ?_ _
                      have hEnd := hH2
                      clear hH2
                      have HE7 := Lib.hid hEnd
                      have HK7 := Lib.hid hK7
                      clear hEnd hK7
                      go_wp2
                      exact ⟨⟨k + 1, nextLeft left2 false ES y2 true, by omega, by go_num, by rw [HAN.out]; simp, by omega, by omega, HK7, HE7⟩, by simp [intOf]; omega⟩
                  · have hE2 : (y3 == x) = false := by simpa using hb
                    go_wp2_with fail
                    go_big_quiet (fail)
                    go_wp2
                    go_roundw
                    case rel => exact ⟨k + 1, left2, by omega, by go_num, by rw [HAN.out]; simp [hb], by omega, by omega, Lib.hid (blk_below (pw_below_drewN (Below.refl _ _) _) HKk.out), Lib.hid (HBk.out.trans (But.of_below _ (pw_below_drewN (Below.refl _ _) _)))⟩
                    case measure => simp [intOf]; omega
                · have hE1 : (y2 == id) = false := by simpa using ha
                  go_wp2_with fail
                  go_big_quiet (fail)
                  go_wp2
                  go_roundw
                  case rel => exact ⟨k + 1, left2, by omega, by go_num, by rw [HAN.out]; simp [ha], by omega, by omega, Lib.hid (blk_below (pw_below_drewN (Below.refl _ _) _) HKk.out), Lib.hid (HBk.out.trans (But.of_below _ (pw_below_drewN (Below.refl _ _) _)))⟩
                  case measure => simp [intOf]; omega
              · have hlk2 : ¬ (k : Int) < (ES.length : Int) := by omega
                have hf : ((ES.take k).any fun e => decide (e.f2 = id) && decide (e.f3 = x)) = true := by
                  rw [List.take_of_length_le (by omega), List.any_eq_true]
                  obtain ⟨e, he1, he2, -, he4⟩ := HEX.out
                  exact ⟨e, he1, by simp [he2, he4]⟩
                rw [hf]
                go_wp2
                go_roundw
                case rel => exact ⟨j + 1, left2, by omega, by go_num, by omega, by omega, HKk, HBk⟩
                case measure => simp [intOf]; omega
          · have hlj2 : ¬ (j : Int) < (M.length : Int) := by omega
            go_wp2_with (go_at_call 57; refine (walk_Spent_calls wb g _ false _ HK.out).mono ?_; rintro e w9 ⟨rfl, rfl⟩)
            go_ret
            exact ⟨rfl, HWW.out.trans (HB.out.low (fun k hk => by rw [hk]; exact HW.out) HWW.out.size)⟩
  · have h2' : (100 : Int) < (label.size : Int) := by omega
    go_enter Try.func9, Try.ntmps9
    go_wp2_with (first
      | (go_at_call 51; clear p1; refine (law17_awake_calls _).mono ?_; rintro e w1 ⟨rfl, hb⟩; have HB1 := Lib.hid (keepB0 hb HB0.out); have HP1 := Lib.hid (blk_below hb HP0.out); clear hb; have kp0 := blk_cell HP1.out 0; have kp1 := blk_cell HP1.out 1; simp only [List.getElem?_toArray, List.getElem?_cons_zero, List.getElem?_cons_succ] at kp0 kp1)
      | (go_at_call 52; refine (law17_small_calls A B c d vs es _ (Kd.C_below HV.out HB1.out) (Kd.C_below HE.out HB1.out)).mono ?_; rw [h1]; rintro e w2 ⟨rfl, hb⟩; have HB2 := Lib.hid (keepB0 hb HB1.out); have HP2 := Lib.hid (blk_below hb HP1.out); clear hb; have kp20 := blk_cell HP2.out 0; have kp21 := blk_cell HP2.out 1; simp only [List.getElem?_toArray, List.getElem?_cons_zero, List.getElem?_cons_succ] at kp20 kp21)
      | (go_at_call 51; clear p2; refine (law17_awake_calls _).mono ?_; rintro e w3 ⟨rfl, hb⟩; have HB3 := Lib.hid (keepB0 hb HB2.out); clear hb))
    go_ret
    exact ⟨rfl, HB3.out⟩
/-- For the row. -/
theorem law17_WalkSides_row (A : Option Addr) (c : Nat) (vs : List SVert) (B : Option Addr) (d : Nat) (es : List SEdg) (id : Int) (label : ByteArray) (w : World) (hv : kVert.C w A vs.length vs) (he : kEdg.C w B es.length es) {b : Nat} (hk : ∀ n, b ≤ n → (∀ x ∈ vs, ∀ p ∈ x.f2, p.f0.size ≤ n) ∧ ∀ x ∈ es, ∀ p ∈ x.f4, p.f0.size ≤ n) (_ : -9223372036854775808 ≤ id ∧ id ≤ 9223372036854775807) (hb : b ≤ 2000000) :
    Calls Try.prog 9 #[.agg #[.slice A vs.length c, .slice B es.length d], .int .i64 id, .string label] w fun e w' => e = .returned (.bool true) ∧ Below w.heap.size w w' := law17_WalkSides_calls A B c d vs es id label w hv he (hk _ hb)
end Go.Proofs.Ytonbnlfijmapfaa
/- What came in, opened: from the way a datum reads to the kinds of rows. No condition. -/
namespace Go.Proofs.Ytonbnlfijmapfaa
open Go.RowKit Go.Proofs.YtonbnlfijmapfaaW.PrintWords
set_option linter.unusedVariables false
set_option linter.unusedSimpArgs false

/-- A datum of type T reads as one of the kind d, with g. -/
def Opens {α : Type} (d : Kd α) (T : TypeId) (g : α → Prop) : Prop :=
  ∀ {H : Type} (enc : TypeId × Value → H) (w : World) (sp : Nat → Bool) (held : Bool) (fuel : Nat) (cs : List Value) (x : DataW H × List MemPlace), DataW.trod enc Try.prog w 0 sp held fuel T cs = some x → ∃ a, d.K w a cs ∧ g a

theorem opens_int {T : TypeId} {k : IntKind} (ht : Try.prog.underlying T = some (.int k)) : Opens (Kd.int k) T (fun n => (Lit.int k n).wf = true) := by
  intro H enc w sp held fuel cs x h
  obtain ⟨n, rfl, _, hw⟩ := DataW.trod_int ht h
  exact ⟨n, rfl, hw⟩
theorem opens_string {T : TypeId} (ht : Try.prog.underlying T = some .string) : Opens Kd.string T (fun s => s.size ≤ maxLen) := by
  intro H enc w sp held fuel cs x h
  obtain ⟨s, rfl, _, hw⟩ := DataW.trod_string ht h
  exact ⟨s, rfl, hw⟩
theorem cells_each {w : World} {base : Nat} {a : Addr} {n : Nat} {cs : List Value} (h : w.cells? base a n = some cs) : cs.length = n ∧ ∀ i u, cs[i]? = some u → w.cell? (a.add i) = some u := by
  unfold World.cells? at h
  split at h
  · have hl := mapM_some_length h
    rw [List.length_range] at hl
    refine ⟨hl, fun i u hu => ?_⟩
    have hi : i < n := by
      rcases Nat.lt_or_ge i cs.length with h2 | h2
      · omega
      · rw [List.getElem?_eq_none h2] at hu; cases hu
    rw [mapM_some_get h i i (by simp [hi])]; exact hu
  · cases h
theorem add_add_ (ad : Addr) (i j : Nat) : (ad.add i).add j = ad.add (i + j) := by
  unfold Addr.add
  by_cases hi : i = 0 <;> by_cases hj : j = 0 <;> simp [hi, hj, Nat.add_assoc]
theorem opens_slice {α : Type} [Inhabited α] {d : Kd α} {T e : TypeId} {g : α → Prop} (ht : Try.prog.underlying T = some (.slice e)) (hc : Try.prog.cellsOf e = d.sz) (ho : Opens d e g) : Opens (Kd.slice e d) T (fun l => ∀ x ∈ l, g x) := by
  intro H enc w sp held fuel cs x h
  rcases DataW.trod_slice ht h with ⟨rfl, _⟩ | ⟨a, len, cap, elems, rest, n, _, rfl, _, _, hl, hm, hlen, hel, _, _⟩
  · exact ⟨[], ⟨none, 0, rfl, Nat.le_refl _, Kd.C_nil _ _⟩, fun x hx => by simp at hx⟩
  · have key : ∀ i, i < len → ∃ y cs', w.cells? 0 (a.add (i * Try.prog.cellsOf e)) (Try.prog.cellsOf e) = some cs' ∧ d.K w y cs' ∧ g y := by
      intro i hi
      have := hel i hi
      rw [List.getElem?_eq_getElem (by omega)] at this
      obtain ⟨cs', h1, h2⟩ := Option.bind_eq_some_iff.1 this
      obtain ⟨y, hk, hg⟩ := ho enc w sp held n cs' _ h2
      exact ⟨y, cs', h1, hk, hg⟩
    obtain ⟨f, hf⟩ := Go.Deep.choose_lt key
    have hlr : ((List.range len).map f).length = len := by simp
    refine ⟨(List.range len).map f, ⟨some a, cap, by rw [hlr], by rw [hlr]; exact hl, ?_⟩, fun x hx => ?_⟩
    · rw [hlr]
      refine ⟨hlr, by simp only [maxLen] at hm; omega, fun _ => ⟨a, rfl, fun j p hj => ?_⟩⟩
      have hjl : j < len := by
        rcases Nat.lt_or_ge j len with h2 | h2
        · exact h2
        · rw [List.getElem?_eq_none (by rw [hlr]; exact h2)] at hj; cases hj
      obtain rfl : p = f j := by simp [hjl] at hj; exact hj.symm
      obtain ⟨cs', h1, h2, h3⟩ := hf j hjl
      rw [hc] at h1
      obtain ⟨e1, e2⟩ := cells_each h1
      exact ⟨cs', e1, h2, fun i u hu => by rw [← add_add_]; exact e2 i u hu⟩
    · simp only [List.mem_map, List.mem_range] at hx
      obtain ⟨j, hj, rfl⟩ := hx
      obtain ⟨_, _, _, h3⟩ := hf j hj
      exact h3
instance : Inhabited SPrp := ⟨zPrp⟩
instance : Inhabited SVert := ⟨zVert⟩
instance : Inhabited SEdg := ⟨zEdg⟩

theorem len2 {α : Type} {l : List α} (h : l.length = 2) : ∃ a b, l = [a, b] := by
  match l, h with
  | [a, b], _ => exact ⟨a, b, rfl⟩
theorem len3 {α : Type} {l : List α} (h : l.length = 3) : ∃ a b c, l = [a, b, c] := by
  match l, h with
  | [a, b, c], _ => exact ⟨a, b, c, rfl⟩
theorem len4 {α : Type} {l : List α} (h : l.length = 4) : ∃ a b c d, l = [a, b, c, d] := by
  match l, h with
  | [a, b, c, d], _ => exact ⟨a, b, c, d, rfl⟩
theorem len5 {α : Type} {l : List α} (h : l.length = 5) : ∃ a b c d e, l = [a, b, c, d, e] := by
  match l, h with
  | [a, b, c, d, e], _ => exact ⟨a, b, c, d, e, rfl⟩
theorem co_int : Try.prog.cellsOf 3 = 1 := by kernel_rfl
theorem co_string : Try.prog.cellsOf 9 = 1 := by kernel_rfl
theorem co_Value : Try.prog.cellsOf 42 = 3 := by kernel_rfl
theorem co_Prp : Try.prog.cellsOf 117 = 4 := by kernel_rfl
theorem co_slPrp : Try.prog.cellsOf 22 = 1 := by kernel_rfl
theorem co_Vert : Try.prog.cellsOf 24 = 3 := by kernel_rfl
theorem co_Edg : Try.prog.cellsOf 35 = 5 := by kernel_rfl
theorem opens_Value : Opens kValue 42 (fun v => (Lit.int .i64 v.f0).wf = true ∧ (Lit.int .i64 v.f1).wf = true ∧ v.f2.size ≤ maxLen) := by
  intro H enc w sp held fuel cs x h
  obtain ⟨xs, n, _, _, hl, hn, hx⟩ := DataW.trod_struct Try.underlying42 h
  have hl3 : cs.length = 3 := hl.trans co_Value
  have hn3 : xs.length = 3 := hn
  obtain ⟨c0, c1, c2, rfl⟩ := len3 hl3
  obtain ⟨x0, x1, x2, rfl⟩ := len3 hn3
  clear hl hn hl3 hn3 h
  obtain ⟨a0, k0, g0⟩ := opens_int Try.underlying3 enc w sp held n [c0] x0 (by have h := hx 0 _ rfl; simp [co_int, co_string, co_Value, co_Prp, co_slPrp] at h; exact h)
  obtain ⟨a1, k1, g1⟩ := opens_int Try.underlying3 enc w sp held n [c1] x1 (by have h := hx 1 _ rfl; simp [co_int, co_string, co_Value, co_Prp, co_slPrp] at h; exact h)
  obtain ⟨a2, k2, g2⟩ := opens_string Try.underlying9 enc w sp held n [c2] x2 (by have h := hx 2 _ rfl; simp [co_int, co_string, co_Value, co_Prp, co_slPrp] at h; exact h)
  cases k0; cases k1; cases k2
  exact ⟨⟨a0, a1, a2⟩, kValue_mk _ _, g0, g1, g2⟩
theorem opens_Prp : Opens kPrp 117 (fun p => p.f0.size ≤ maxLen ∧ (Lit.int .i64 p.f1.f0).wf = true ∧ (Lit.int .i64 p.f1.f1).wf = true ∧ p.f1.f2.size ≤ maxLen) := by
  intro H enc w sp held fuel cs x h
  obtain ⟨xs, n, _, _, hl, hn, hx⟩ := DataW.trod_struct Try.underlying117 h
  have hl3 : cs.length = 4 := hl.trans co_Prp
  have hn3 : xs.length = 2 := hn
  obtain ⟨c0, c1, c2, c3, rfl⟩ := len4 hl3
  obtain ⟨x0, x1, rfl⟩ := len2 hn3
  clear hl hn hl3 hn3 h
  obtain ⟨a0, k0, g0⟩ := opens_string Try.underlying9 enc w sp held n [c0] x0 (by have h := hx 0 _ rfl; simp [co_int, co_string, co_Value, co_Prp, co_slPrp] at h; exact h)
  obtain ⟨a1, k1, g1⟩ := opens_Value enc w sp held n [c1, c2, c3] x1 (by have h := hx 1 _ rfl; simp [co_int, co_string, co_Value, co_Prp, co_slPrp] at h; exact h)
  cases k0
  have e := kValue_open k1
  simp only [List.cons.injEq, and_true] at e
  obtain ⟨rfl, rfl, rfl⟩ := e
  exact ⟨⟨a0, a1⟩, kPrp_mk _ _, g0, g1⟩
theorem opens_Vert : Opens kVert 24 (fun v => (Lit.int .i64 v.f0).wf = true ∧ v.f1.size ≤ maxLen ∧ ∀ p ∈ v.f2, p.f0.size ≤ maxLen ∧ (Lit.int .i64 p.f1.f0).wf = true ∧ (Lit.int .i64 p.f1.f1).wf = true ∧ p.f1.f2.size ≤ maxLen) := by
  intro H enc w sp held fuel cs x h
  obtain ⟨xs, n, _, _, hl, hn, hx⟩ := DataW.trod_struct Try.underlying24 h
  have hl3 : cs.length = 3 := hl.trans co_Vert
  have hn3 : xs.length = 3 := hn
  obtain ⟨c0, c1, c2, rfl⟩ := len3 hl3
  obtain ⟨x0, x1, x2, rfl⟩ := len3 hn3
  clear hl hn hl3 hn3 h
  obtain ⟨a0, k0, g0⟩ := opens_int Try.underlying3 enc w sp held n [c0] x0 (by have h := hx 0 _ rfl; simp [co_int, co_string, co_Value, co_Prp, co_slPrp] at h; exact h)
  obtain ⟨a1, k1, g1⟩ := opens_string Try.underlying9 enc w sp held n [c1] x1 (by have h := hx 1 _ rfl; simp [co_int, co_string, co_Value, co_Prp, co_slPrp] at h; exact h)
  obtain ⟨a2, ⟨A2, d2, k2, l2, r2⟩, g2⟩ := opens_slice Try.underlying22 (d := kPrp) co_Prp opens_Prp enc w sp held n [c2] x2 (by have h := hx 2 _ rfl; simp [co_int, co_string, co_Value, co_Prp, co_slPrp] at h; exact h)
  cases k0; cases k1; cases k2
  exact ⟨⟨a0, a1, a2⟩, kVert_mk _ _ l2 r2, g0, g1, g2⟩
end Go.Proofs.Ytonbnlfijmapfaa
/- What came in, opened: values, texts, numbers. No condition. -/
namespace Go.Proofs.Ytonbnlfijmapfaa
set_option linter.constructorNameAsVariable false
open Go.RowKit Go.ChangeShapes Go.WideShapes Go.Proofs.YtonbnlfijmapfaaW.PrintWords
set_option linter.unusedVariables false
set_option linter.unusedSimpArgs false

set_option maxRecDepth 100000
section
variable {H : Type} {enc : TypeId × Value → H} {W : World} {sp : Nat → Bool} {held : Bool} {r : Reach} {b : Nat} {v : Value} {d : DataW H} {p : List MemPlace}
theorem wf_rng {n : Int} (h : (Lit.int .i64 n).wf = true) : -9223372036854775808 ≤ n ∧ n ≤ 9223372036854775807 := by
  simpa [Lit.wf, IntKind.min, IntKind.max, IntKind.signed, IntKind.bits] using h
theorem open_value (hv : Value.okWide Try.prog W r b 42 v) (h : DataW.Trod enc Try.prog W 0 sp held 42 v d p) :
    ∃ (k n : Int) (s : ByteArray), v = .agg #[.int .i64 k, .int .i64 n, .string s] ∧ (-9223372036854775808 ≤ n ∧ n ≤ 9223372036854775807) ∧ s.size ≤ maxLen := by
  obtain ⟨cs, rfl, -⟩ := okWide_struct Try.underlying42 hv
  obtain ⟨fuel, hf⟩ := h
  obtain ⟨x, hK, hg⟩ := opens_Value enc W sp held fuel _ _ hf
  have e := kValue_open hK
  have e2 : cs.toList = [.int .i64 x.f0, .int .i64 x.f1, .string x.f2] := by simpa [Value.cells] using e
  refine ⟨x.f0, x.f1, x.f2, by rw [← Array.toList_inj.1 (show cs.toList = (#[Value.int .i64 x.f0, .int .i64 x.f1, .string x.f2] : Array Value).toList from e2)], wf_rng hg.2.1, hg.2.2⟩
theorem open_num (hv : Value.okWide Try.prog W r b 3 v) (h : DataW.Trod enc Try.prog W 0 sp held 3 v d p) : ∃ x : Int, v = .int .i64 x ∧ (-9223372036854775808 ≤ x ∧ x ≤ 9223372036854775807) := by
  obtain ⟨x, rfl, _, _, hw⟩ := Go.ChangeShapes.open_int Try.underlying3 hv h
  exact ⟨x, rfl, wf_rng hw⟩
theorem okWide_arr {n : Nat} {e t : TypeId} (ht : Try.prog.underlying t = some (.array n e)) (h : Value.okWide Try.prog W r b t v) : ∃ cs, v = .agg cs ∧ cs.size = Try.prog.cellsOf t := by
  simp only [Value.okWide, ht] at h
  obtain ⟨cs, h1, h2, _⟩ := h
  exact ⟨cs, h1, h2⟩
theorem open_names (hv : Value.okWide Try.prog W r b 53 v) (h : DataW.Trod enc Try.prog W 0 sp held 53 v d p) : ∃ x y : ByteArray, v = .agg #[.string x, .string y] := by
  obtain ⟨cs, rfl, -⟩ := okWide_arr Try.underlying53 hv
  obtain ⟨fuel, hf⟩ := h
  obtain ⟨xs, m, _, _, hl, hn, hx⟩ := DataW.trod_array Try.underlying53 hf
  have hl2 : (Value.agg cs).cells.toList.length = 2 := hl.trans (by kernel_rfl)
  obtain ⟨c0, c1, e⟩ := len2 hl2
  obtain ⟨x0, x1, rfl⟩ := len2 hn
  have g0 := hx 0 (by omega)
  have g1 := hx 1 (by omega)
  rw [e] at g0 g1
  simp [co_string] at g0 g1
  obtain ⟨n0, k0, -⟩ := DataW.trod_string Try.underlying9 g0
  obtain ⟨n1, k1, -⟩ := DataW.trod_string Try.underlying9 g1
  simp only [List.cons.injEq, and_true] at k0 k1
  subst k0; subst k1
  refine ⟨n0, n1, ?_⟩
  have e2 : cs.toList = (#[Value.string n0, .string n1] : Array Value).toList := by simpa [Value.cells] using e
  rw [Array.toList_inj.1 e2]
end
end Go.Proofs.Ytonbnlfijmapfaa
/- cobwebref16.SameV. -/
namespace Go.Proofs.Ytonbnlfijmapfaa
open Go.RowKit Go.Shelf Go.Proofs.YtonbnlfijmapfaaW.PrintWords
set_option linter.unusedVariables false
set_option linter.unusedSimpArgs false

set_option maxRecDepth 100000 in
set_option maxHeartbeats 4000000 in
theorem ref16_SameV_calls (A B : Option Addr) (c d : Nat) (a b : List SVert) (w : World) (ha : kVert.C w A a.length a) (hb : kVert.C w B b.length b) :
    Calls Try.prog 18 #[.slice A a.length c, .slice B b.length d] w fun e w' => e = .returned (.bool (decide (a = b))) ∧ Quiet w w' := by
  have hm := Kd.C_max ha
  have HX := Lib.hid ha; clear ha
  have HY := Lib.hid hb; clear hb
  go_enter Try.func18, Try.ntmps18
  by_cases hl : a.length = b.length
  · have hl2 : ((a.length : Int) = (b.length : Int)) := by omega
    go_wp2
    go_loopw [5] (fun v5 wr => ∃ (k : Nat), k ≤ a.length ∧ v5 = .int .i64 k ∧ Hid (Quiet w wr) ∧ Hid (a.take k = b.take k)) (fun v5 _ => a.length - (intOf v5).toNat)
    case atStart => exact ⟨0, by omega, rfl, Lib.hid (quiet_refl _), Lib.hid rfl⟩
    case round =>
      obtain ⟨k, hk, rfl, HB, HT⟩ := hrel
      by_cases hlt : k < a.length
      · have hlt2 : (k : Int) < (a.length : Int) := by omega
        have hlt3 : (k : Int) < (b.length : Int) := by omega
        obtain ⟨ad, A2, c2, rfl, g0, g1, g2, _, hA⟩ := at_Vert (Kd.C_below HX.out (quiet_below HB.out _)) (k : Int) (by omega) (by omega)
        obtain ⟨bd, B2, d2, rfl, f0, f1, f2, _, hB⟩ := at_Vert (Kd.C_below HY.out (quiet_below HB.out _)) (k : Int) (by omega) (by omega)
        simp only [Int.toNat_natCast, rd_Vert] at g0 g1 g2 f0 f1 f2 hA hB
        have HE := Lib.hid (fun e => take_step a b k zVert hlt (by omega) HT.out e)
        have HN := Lib.hid (fun e => take_unlike (a := a) (b := b) (k := k) (z := zVert) e)
        cases hy : a.getD k zVert with
        | mk y0 y1 y2 =>
        cases hx : b.getD k zVert with
        | mk x0 x1 x2 =>
        rw [hy] at g0 g1 g2 hA HE HN
        rw [hx] at f0 f1 f2 hB HE HN
        clear hx hy
        simp only at g0 g1 g2 f0 f1 f2 hA hB
        by_cases h0 : y0 = x0
        · subst h0
          by_cases h1 : y1 = x1
          · subst h1
            have q := fun w2 hb => ref03_Same_calls A2 B2 c2 d2 y2 x2 w2 (Kd.C_below hA hb) (Kd.C_below hB hb)
            have HQ := Lib.hid q; clear q
            cases h2 : decide (y2 = x2) with
            | true =>
              rw [h2] at HQ
              go_wp2_with fail
              go_big_quiet ((go_at_call 70; exact Calls.quiet_of (HQ.out _ (pw_below_drewN (Below.refl _ _) _))))
              go_wp2
              go_roundw
              case rel => exact ⟨k + 1, by omega, by go_num, Lib.hid (quiet_step HB.out _), Lib.hid (HE.out (by rw [of_decide_eq_true h2]))⟩
              case measure => simp [intOf]; omega
            | false =>
              rw [h2] at HQ
              go_wp2_with fail
              go_big_quiet ((go_at_call 70; exact Calls.quiet_of (HQ.out _ (pw_below_drewN (Below.refl _ _) _))))
              go_wp2
              go_ret
              exact ⟨ret_bool (Eq.symm (decide_eq_false (HN.out (by simp [of_decide_eq_false h2])))), quiet_step HB.out _⟩
          · have h1' : (y1.toList == x1.toList) = false := by rw [toList_eq]; exact decide_eq_false h1
            go_wp2_with fail
            go_big_quiet (fail)
            go_wp2
            go_ret
            exact ⟨ret_bool (Eq.symm (decide_eq_false (HN.out (by simp [h1])))), quiet_step HB.out _⟩
        · have h0' : (y0 != x0) = true := by simp [h0]
          go_wp2_with fail
          go_big_quiet (fail)
          go_wp2
          go_ret
          exact ⟨ret_bool (Eq.symm (decide_eq_false (HN.out (by simp [h0])))), quiet_step HB.out _⟩
      · have hlt2 : ¬ (k : Int) < (b.length : Int) := by omega
        go_wp2
        go_ret
        refine ⟨ret_bool (Eq.symm (decide_eq_true ?_)), HB.out⟩
        have := HT.out
        rwa [List.take_of_length_le (by omega), List.take_of_length_le (by omega)] at this
  · have hl2 : ¬ ((a.length : Int) = (b.length : Int)) := by omega
    go_wp2
    go_ret
    exact ⟨ret_bool (Eq.symm (decide_eq_false (fun h => hl (by rw [h])))), quiet_refl _⟩
end Go.Proofs.Ytonbnlfijmapfaa
/- cobweblaw21.props, awake; web.VertexKey. -/
namespace Go.Proofs.Ytonbnlfijmapfaa
open Go.RowKit Go.Shelf Go.Proofs.YtonbnlfijmapfaaW.PrintWords
set_option linter.unusedVariables false
set_option linter.unusedSimpArgs false

/-- Not too many, not too long. -/
def small (p : SPrp) : Bool := decide (p.f0.size ≤ 100) && decide (p.f1.f2.size ≤ 300)
def lawProps (ps : List SPrp) : Bool := decide (ps.length ≤ 30) && ps.all small
theorem small_fits {ps : List SPrp} (h : lawProps ps = true) : fits ps := by
  simp only [lawProps, Bool.and_eq_true, List.all_eq_true, small, decide_eq_true_eq] at h
  intro p hp; have := (h.2 p hp).1; omega

set_option maxHeartbeats 2000000 in
theorem law21_props_calls (A : Option Addr) (c : Nat) (l : List SPrp) (w : World) (h : kPrp.C w A l.length l) :
    Calls Try.prog 16 #[.slice A l.length c] w fun e w' => e = .returned (.bool (lawProps l)) ∧ w = w' := by
  have hm := Kd.C_max h
  have HX := Lib.hid h; clear h
  by_cases h30 : l.length ≤ 30
  · have hz : ¬ (30 : Int) < (l.length : Int) := by omega
    go_enter Try.func16, Try.ntmps16
    go_wp2
    go_loopw [3] (fun v3 wr => ∃ k : Nat, k ≤ l.length ∧ v3 = .int .i64 k ∧ wr = w ∧ Hid ((l.drop k).all small = l.all small)) (fun v3 _ => l.length - (intOf v3).toNat)
    case atStart => exact ⟨0, by omega, rfl, rfl, Lib.hid rfl⟩
    case round =>
      obtain ⟨k, hk, rfl, rfl, HT⟩ := hrel
      by_cases hlt : k < l.length
      · have hlt2 : (k : Int) < (l.length : Int) := by omega
        have HS := Lib.hid (drop_cons l k zPrp hlt)
        obtain ⟨ad, rfl, g0, g1, g2, g3⟩ := at_Prp HX.out (k : Int) (by omega) (by omega)
        simp only [Int.toNat_natCast, rd_Prp] at g0 g1 g2 g3
        cases hy : l.getD k zPrp with
        | mk y0 yv =>
        cases yv with
        | mk y1 y2 y3 =>
        rw [hy] at g0 g1 g2 g3 HS
        clear hy
        simp only at g0 g1 g2 g3
        by_cases h0 : y0.size ≤ 100
        · have e0 : ¬ (100 : Int) < (y0.size : Int) := by omega
          by_cases h1 : y3.size ≤ 300
          · have e1 : ¬ (300 : Int) < (y3.size : Int) := by omega
            go_wp2
            go_roundw
            case rel => exact ⟨k + 1, by omega, by go_num, by trivial, Lib.hid (by rw [← HT.out, HS.out]; simp [small, h0, h1])⟩
            case measure => simp [intOf]; omega
          · have e1 : (300 : Int) < (y3.size : Int) := by omega
            go_wp2
            go_ret
            exact ⟨ret_bool (by rw [lawProps, ← HT.out, HS.out]; simp [small, h1]), rfl⟩
        · have e0 : (100 : Int) < (y0.size : Int) := by omega
          go_wp2
          go_ret
          exact ⟨ret_bool (by rw [lawProps, ← HT.out, HS.out]; simp [small, h0]), rfl⟩
      · have hlt2 : ¬ (k : Int) < (l.length : Int) := by omega
        go_wp2
        go_ret
        refine ⟨ret_bool ?_, rfl⟩
        have := HT.out
        rw [List.drop_eq_nil_of_le (by omega)] at this
        rw [lawProps, ← this, decide_eq_true h30]; rfl
  · have hz : (30 : Int) < (l.length : Int) := by omega
    go_enter Try.func16, Try.ntmps16
    go_wp2
    go_ret
    exact ⟨ret_bool (by rw [lawProps, decide_eq_false h30]; rfl), rfl⟩

set_option maxHeartbeats 1000000 in
theorem web_VertexKey_calls (a : Int) (w : World) :
    Calls Try.prog 27 #[.int .i64 a] w fun e w' => e = .returned (.agg #[.int .i64 1, .int .i64 a, .int .i64 0, .string ⟨#[]⟩]) ∧ Below w.heap.size w w' := by
  go_enter Try.func27, Try.ntmps27
  go_wp2
  refine bodyPost_ret (results_cell_row rfl _ _ w.heap.size 55 _ (0, 0) _ rfl (heap_alloc_new _ _) Try.underlying55 rfl (by kernel_rfl)) rfl ?_
  exact ⟨rfl, below_al _ _⟩
end Go.Proofs.Ytonbnlfijmapfaa
/- cobweblaw21.awake. -/
namespace Go.Proofs.Ytonbnlfijmapfaa
open Go.RowKit Go.Shelf Go.Proofs.YtonbnlfijmapfaaW.PrintWords
set_option linter.unusedVariables false
set_option linter.unusedSimpArgs false

theorem awake_check : checkN ⟨#[97]⟩ [] [7] = 0 := by kernel_rfl
theorem awake_text : vertexText 7 ⟨#[97]⟩ [] = ⟨#[1, 97, 0]⟩ := by kernel_rfl
theorem awake_entries : entries 7 ⟨#[97]⟩ [] = [⟨⟨#[76, 97]⟩, ⟨#[0, 0, 0, 0, 7]⟩⟩] := by kernel_rfl

set_option maxRecDepth 100000 in
set_option maxHeartbeats 2000000 in
theorem law21_awake_calls (w : World) :
    Calls Try.prog 15 #[] w fun e w' => e = .returned (.bool true) ∧ Below w.heap.size w w' := by
  have q1 := eq_Entry (decide_eq_true (Eq.refl (⟨⟨#[76, 97]⟩, ⟨#[0, 0, 0, 0, 7]⟩⟩ : SEntry)))
  have q2 := eq_Key (decide_eq_true (Eq.refl (⟨1, 7, 0, ⟨#[]⟩⟩ : SKey)))
  have hf : fits [] := fun _ h => by simp at h
  have hg : ranged [] := fun _ h => by simp at h
  go_enter Try.func15, Try.ntmps15
  go_wp2_with (first
    | (go_at_call 17; refine (web_VertexText_calls 7 ⟨#[97]⟩ none 0 [] _ (by decide) (Kd.C_nil _ _) hf hg).mono ?_; rw [awake_text, awake_check]; rintro e w1 ⟨rfl, hb1⟩; have K1 : w1.cell? ⟨w.heap.size, 0, none⟩ = some (.int .i64 7) ∧ w1.cell? ⟨w.heap.size, 1, none⟩ = some (.string ⟨#[97]⟩) ∧ w1.cell? ⟨w.heap.size, 2, none⟩ = some (.slice none 0 0) := (fun K => ⟨blk_cell K 0, blk_cell K 1, blk_cell K 2⟩) (blk_below hb1 (blk_new w #[.int .i64 7, .string ⟨#[97]⟩, .slice none 0 0] 24)); obtain ⟨K1, K2, K3⟩ := K1; have HB1 := Lib.hid (keepB0 hb1 (below_al _ _)); clear hb1)
    | (go_at_call 20; refine (web_Entries_calls 7 ⟨#[97]⟩ none 0 [] _ (by decide) (Kd.C_nil _ _) hf hg).mono ?_; rw [awake_entries]; rintro e w2 ⟨v2, rfl, hR2, hb2⟩; have HB2 := Lib.hid (keepB0 hb2 HB1.out); clear hb2; obtain ⟨A2, c2, rfl, -, hC2⟩ := Kd.R_reads hR2; obtain ⟨ad, rfl, g0, g1⟩ := at_Entry hC2 0 (by decide) (by decide); simp only [rd_Entry, Int.toNat_zero, Nat.zero_mul, add_zero_] at g0 g1)
    | (go_at_call 27; refine (web_VertexKey_calls _ _).mono ?_; rintro e w3 ⟨rfl, hb3⟩; have HB3 := Lib.hid (keepB0 hb3 HB2.out); clear hb3))
  go_ret
  exact ⟨rfl, HB3.out⟩
end Go.Proofs.Ytonbnlfijmapfaa
