/- props.by, props.Right, and the reference's; what may be. No condition but on sizes. -/
import Derived.Test.YtonbnlfijmapfaaL5
import Derived.Test.YtonbnlfijmapfaaL6
namespace Go.Proofs.Ytonbnlfijmapfaa
open Go.RowKit Go.Shelf Go.Proofs.YtonbnlfijmapfaaW.PrintWords
set_option linter.unusedVariables false
set_option linter.unusedSimpArgs false

set_option maxHeartbeats 1000000 in
theorem props_by_calls (key : ByteArray) (k n : Int) (s b : ByteArray) (w : World) (ha : key.size ≤ 70368744177664) (hb : b.size ≤ 70368744177664) :
    Calls Try.prog 117 #[.agg #[.string key, .int .i64 k, .int .i64 n, .string s], .string b] w fun e w' => e = .returned (.int .i64 (cmpS key b)) ∧ Below w.heap.size w w' := by
  go_enter Try.func117, Try.ntmps117
  go_wp2_with (go_at_call 134; refine (letter_Compare_calls _ _ _ ha hb).mono ?_; rintro e w' ⟨rfl, hb'⟩)
  go_ret
  exact ⟨rfl, ((Below.refl _ _).alloc (Nat.le_refl _) _).trans (below_down hb' (by simp))⟩

def propsFrom : Option ByteArray → List SPrp → Bool
  | _, [] => true
  | q, p :: t => nameRight p.f0 && p.f1.ok && (match q with | none => true | some q => decide (cmpS q p.f0 < 0)) && propsFrom (some p.f0) t
def propsRight (ps : List SPrp) : Bool := propsFrom none ps && decide (ps.length ≤ 16)
def prevAt (l : List SPrp) (k : Nat) : Option ByteArray := if k = 0 then none else some (l.getD (k - 1) zPrp).f0
def fits (ps : List SPrp) : Prop := ∀ p ∈ ps, p.f0.size ≤ 100000

theorem propsFrom_at (l : List SPrp) (k : Nat) (h : k < l.length) : propsFrom (prevAt l k) (l.drop k) =
    (nameRight (l.getD k zPrp).f0 && (l.getD k zPrp).f1.ok && (match prevAt l k with | none => true | some q => decide (cmpS q (l.getD k zPrp).f0 < 0)) && propsFrom (prevAt l (k + 1)) (l.drop (k + 1))) := by
  rw [drop_cons l k zPrp h]; rfl

theorem propsRight_no {l : List SPrp} (h : propsFrom none l = false) : propsRight l = false := by unfold propsRight; rw [h]; rfl

set_option maxHeartbeats 2000000 in
theorem props_Right_calls (A : Option Addr) (c : Nat) (l : List SPrp) (w : World) (h : kPrp.C w A l.length l) (hf : fits l) :
    Calls Try.prog 86 #[.slice A l.length c] w fun e w' => e = .returned (.bool (propsRight l)) ∧ Below w.heap.size w w' := by
  have hm := Kd.C_max h
  have HX := Lib.hid h; clear h
  have HF := Lib.hid hf; clear hf
  go_enter Try.func86, Try.ntmps86
  go_wp2
  go_loopw [7] (fun s7 wr => ∃ k : Nat, k ≤ l.length ∧ s7 = .int .i64 k ∧ Hid (Below w.heap.size w wr) ∧ Hid (propsFrom (prevAt l k) (l.drop k) = propsFrom none l)) (fun s7 _ => l.length - (intOf s7).toNat)
  case atStart => exact ⟨0, Nat.zero_le _, rfl, Lib.hid (Below.refl _ w), Lib.hid rfl⟩
  case round =>
    obtain ⟨k, hk, rfl, HB, HI⟩ := hrel
    by_cases hlt : k < l.length
    · have hlt2 : (k : Int) < (l.length : Int) := by omega
      have HS := Lib.hid (propsFrom_at l k hlt)
      have hmem : l.getD k zPrp ∈ l := by simp [List.getD_eq_getElem?_getD, List.getElem?_eq_getElem hlt]
      have hs := HF.out _ hmem
      obtain ⟨ad, rfl, g0, g1, g2, g3⟩ := at_Prp (Kd.C_below HX.out HB.out) (k : Int) (by omega) (by omega)
      simp only [Int.toNat_natCast, rd_Prp] at g0 g1 g2 g3
      cases hy : l.getD k zPrp with
      | mk y0 yv =>
      cases yv with
      | mk y1 y2 y3 =>
      rw [hy] at g0 g1 g2 g3 HS hs
      clear hy hmem
      simp only at g0 g1 g2 g3 hs
      cases hN : nameRight y0 with
      | false =>
        go_wp2_with fail
        refine wp_region_held_drew (S := (fun w' => w'.cell? ⟨wr.heap.size, 0, none⟩ = some (.string y0) ∧ w'.cell? ⟨wr.heap.size, 1, none⟩ = some (.int .i64 y1) ∧ w'.cell? ⟨wr.heap.size, 2, none⟩ = some (.int .i64 y2) ∧ w'.cell? ⟨wr.heap.size, 3, none⟩ = some (.string y3) ∧ Below w.heap.size w w')) (by kernel_rfl) ?hS1 (fun hH0 => ?_)
        case hS1 => refine ⟨by go_keep, by go_keep, by go_keep, by go_keep, below_drew (HB.out.alloc HB.out.size _)⟩
        refine takeY (oi := { dst := some 12, op := Op.fieldAddr 117 (Operand.tmp 4) 0, type := 0, pos := "props.go:18", after := #[], guard := none }) 0 (some 12) (v := ?v0_1) rfl rfl (by kernel_rfl) (by kernel_rfl) (by kernel_rfl) (fun _ _ _ h => h) (by kernel_rfl) ?hy1 hH0 ?_
        case hy1 => (intro w_ hSw; (try dsimp only at hSw); go_simp; (first | done | with_reducible rfl | rw [if_neg (by omega)]))
        simp only [Act.put, List.setIfInBounds_toArray, List.set_cons_zero, List.set_cons_succ]
        refine takeY (oi := { dst := some 13, op := Op.load 9 (Operand.tmp 12), type := 9, pos := "props.go:18", after := #[{ on := 0, ground := Ground.data }], guard := none }) 1 (some 13) (v := ?v1_1) rfl rfl (by kernel_rfl) (by kernel_rfl) (by kernel_rfl) (fun _ _ _ h => h) (by kernel_rfl) ?hy1 hH0 ?_
        case hy1 => (intro w_ hSw; (try dsimp only at hSw); go_simp; (first | done | with_reducible rfl | rw [if_neg (by omega)]))
        simp only [Act.put, List.setIfInBounds_toArray, List.set_cons_zero, List.set_cons_succ]
        refine wpAnyH_ready (rs := [2]) (by kernel_rfl) (by simp) ?_
        refine AllReadyH.cons (o := { dst := some 14, op := Op.buildSlice 174 1 #[(0, Operand.tmp 13)], type := 174, pos := "props.go:18", after := #[{ on := 1, ground := Ground.data }], guard := none }) rfl (fun K1 hK1 => ?_) AllReadyH.nil
        go_simp
        refine hK1.out _ _ ?hS1 (fun hH1 => ?_)
        case hS1 => ((try dsimp only); (first | exact keepB4 (by assumption) (by assumption) | exact keepB4 (below_al _ _) (by assumption)))
        clear hK1 K1
        (try clear hH0)
        (try simp only [Act.put, List.setIfInBounds_toArray, List.set_cons_zero, List.set_cons_succ])
        refine wpAnyH_ready (rs := [3]) (by kernel_rfl) (by simp) ?_
        refine AllReadyH.cons (o := { dst := some 15, op := Op.call { callee := Callee.value (Operand.func 85), args := #[Operand.tmp 14], argTypes := #[174] }, type := 4, pos := "props.go:18", after := #[{ on := 2, ground := Ground.data }], guard := none }) rfl (fun K2 hK2 => ?_) AllReadyH.nil
        go_simp; refine (letter_Right_one _ 1 y0 _ ?hC1 ?hs1 false hN).mono ?_; (case hC1 => exact C_boxd Kd.string (by decide) _ _ (by simp) y0 #[.string y0] _ rfl); (case hs1 => omega); rintro e w2 ⟨rfl, hb2⟩
        refine hK2.out _ _ ?hS1 (fun hH2 => ?_)
        case hS1 => ((try dsimp only); (first | exact keepB4 (by assumption) (by assumption) | exact keepB4 (below_al _ _) (by assumption)))
        clear hK2 K2
        (try clear hH1)
        (try simp only [Act.put, List.setIfInBounds_toArray, List.set_cons_zero, List.set_cons_succ])
        refine takeY (oi := { dst := some 16, op := Op.unOp UnOp.not 4 (Operand.tmp 15), type := 4, pos := "props.go:18", after := #[{ on := 3, ground := Ground.data }], guard := none }) 4 (some 16) (v := ?v4_1) rfl rfl (by kernel_rfl) (by kernel_rfl) (by kernel_rfl) (fun _ _ _ h => h) (by kernel_rfl) ?hy1 hH2 ?_
        case hy1 => (intro w_ hSw; (try dsimp only at hSw); go_simp; (first | done | with_reducible rfl | rw [if_neg (by omega)]))
        simp only [Act.put, List.setIfInBounds_toArray, List.set_cons_zero, List.set_cons_succ]
        refine takeY (oi := { dst := some 17, op := Op.move (Operand.tmp 16), type := 4, pos := "props.go:18", after := #[{ on := 4, ground := Ground.data }, { on := 3, ground := Ground.chain }], guard := none }) 5 (some 17) (v := ?v5_1) rfl rfl (by kernel_rfl) (by kernel_rfl) (by kernel_rfl) (fun _ _ _ h => h) (by kernel_rfl) ?hy1 hH2 ?_
        case hy1 => (intro w_ hSw; (try dsimp only at hSw); go_simp; (first | done | with_reducible rfl | rw [if_neg (by omega)]))
        simp only [Act.put, List.setIfInBounds_toArray, List.set_cons_zero, List.set_cons_succ]
        refine takeN 6 (some 18) rfl (by kernel_rfl) (by kernel_rfl) (by kernel_rfl) (by kernel_rfl) (fun _ _ _ h => h) (by kernel_rfl) hH2 ?_
        simp only [Act.put, List.setIfInBounds_toArray, List.set_cons_zero, List.set_cons_succ]
        refine takeN 7 (some 19) rfl (by kernel_rfl) (by kernel_rfl) (by kernel_rfl) (by kernel_rfl) (fun _ _ _ h => h) (by kernel_rfl) hH2 ?_
        simp only [Act.put, List.setIfInBounds_toArray, List.set_cons_zero, List.set_cons_succ]
        refine takeN 8 (some 20) rfl (by kernel_rfl) (by kernel_rfl) (by kernel_rfl) (by kernel_rfl) (fun _ _ _ h => h) (by kernel_rfl) hH2 ?_
        simp only [Act.put, List.setIfInBounds_toArray, List.set_cons_zero, List.set_cons_succ]
        refine takeN 9 (some 21) rfl (by kernel_rfl) (by kernel_rfl) (by kernel_rfl) (by kernel_rfl) (fun _ _ _ h => h) (by kernel_rfl) hH2 ?_
        simp only [Act.put, List.setIfInBounds_toArray, List.set_cons_zero, List.set_cons_succ]
        refine takeN 10 (some 22) rfl (by kernel_rfl) (by kernel_rfl) (by kernel_rfl) (by kernel_rfl) (fun _ _ _ h => h) (by kernel_rfl) hH2 ?_
        simp only [Act.put, List.setIfInBounds_toArray, List.set_cons_zero, List.set_cons_succ]
        refine takeY (oi := { dst := some 23, op := Op.pick (Operand.tmp 17) (Operand.const (Value.bool true)) (Operand.tmp 22), type := 4, pos := "props.go:18", after := #[{ on := 5, ground := Ground.data }, { on := 10, ground := Ground.data }], guard := none }) 11 (some 23) (v := ?v11_1) rfl rfl (by kernel_rfl) (by kernel_rfl) (by kernel_rfl) (fun _ _ _ h => h) (by kernel_rfl) ?hy1 hH2 ?_
        case hy1 => (intro w_ hSw; (try dsimp only at hSw); go_simp; (first | done | with_reducible rfl | rw [if_neg (by omega)]))
        simp only [Act.put, List.setIfInBounds_toArray, List.set_cons_zero, List.set_cons_succ]
        refine takeY (oi := { dst := some 24, op := Op.move (Operand.tmp 23), type := 4, pos := "props.go:18", after := #[{ on := 11, ground := Ground.data }, { on := 9, ground := Ground.chain }], guard := none }) 12 (some 24) (v := ?v12_1) rfl rfl (by kernel_rfl) (by kernel_rfl) (by kernel_rfl) (fun _ _ _ h => h) (by kernel_rfl) ?hy1 hH2 ?_
        case hy1 => (intro w_ hSw; (try dsimp only at hSw); go_simp; (first | done | with_reducible rfl | rw [if_neg (by omega)]))
        simp only [Act.put, List.setIfInBounds_toArray, List.set_cons_zero, List.set_cons_succ]
        refine takeN 13 (some 25) rfl (by kernel_rfl) (by kernel_rfl) (by kernel_rfl) (by kernel_rfl) (fun _ _ _ h => h) (by kernel_rfl) hH2 ?_
        simp only [Act.put, List.setIfInBounds_toArray, List.set_cons_zero, List.set_cons_succ]
        refine takeN 14 (some 26) rfl (by kernel_rfl) (by kernel_rfl) (by kernel_rfl) (by kernel_rfl) (fun _ _ _ h => h) (by kernel_rfl) hH2 ?_
        simp only [Act.put, List.setIfInBounds_toArray, List.set_cons_zero, List.set_cons_succ]
        refine takeN 15 (some 27) rfl (by kernel_rfl) (by kernel_rfl) (by kernel_rfl) (by kernel_rfl) (fun _ _ _ h => h) (by kernel_rfl) hH2 ?_
        simp only [Act.put, List.setIfInBounds_toArray, List.set_cons_zero, List.set_cons_succ]
        refine takeN 16 (some 28) rfl (by kernel_rfl) (by kernel_rfl) (by kernel_rfl) (by kernel_rfl) (fun _ _ _ h => h) (by kernel_rfl) hH2 ?_
        simp only [Act.put, List.setIfInBounds_toArray, List.set_cons_zero, List.set_cons_succ]
        refine takeN 17 (some 29) rfl (by kernel_rfl) (by kernel_rfl) (by kernel_rfl) (by kernel_rfl) (fun _ _ _ h => h) (by kernel_rfl) hH2 ?_
        simp only [Act.put, List.setIfInBounds_toArray, List.set_cons_zero, List.set_cons_succ]
        refine takeN 18 (some 30) rfl (by kernel_rfl) (by kernel_rfl) (by kernel_rfl) (by kernel_rfl) (fun _ _ _ h => h) (by kernel_rfl) hH2 ?_
        simp only [Act.put, List.setIfInBounds_toArray, List.set_cons_zero, List.set_cons_succ]
        refine takeN 19 (some 31) rfl (by kernel_rfl) (by kernel_rfl) (by kernel_rfl) (by kernel_rfl) (fun _ _ _ h => h) (by kernel_rfl) hH2 ?_
        simp only [Act.put, List.setIfInBounds_toArray, List.set_cons_zero, List.set_cons_succ]
        refine takeN 20 (some 32) rfl (by kernel_rfl) (by kernel_rfl) (by kernel_rfl) (by kernel_rfl) (fun _ _ _ h => h) (by kernel_rfl) hH2 ?_
        simp only [Act.put, List.setIfInBounds_toArray, List.set_cons_zero, List.set_cons_succ]
        refine takeN 21 (some 33) rfl (by kernel_rfl) (by kernel_rfl) (by kernel_rfl) (by kernel_rfl) (fun _ _ _ h => h) (by kernel_rfl) hH2 ?_
        simp only [Act.put, List.setIfInBounds_toArray, List.set_cons_zero, List.set_cons_succ]
        refine takeN 22 (some 34) rfl (by kernel_rfl) (by kernel_rfl) (by kernel_rfl) (by kernel_rfl) (fun _ _ _ h => h) (by kernel_rfl) hH2 ?_
        simp only [Act.put, List.setIfInBounds_toArray, List.set_cons_zero, List.set_cons_succ]
        refine takeN 23 (some 35) rfl (by kernel_rfl) (by kernel_rfl) (by kernel_rfl) (by kernel_rfl) (fun _ _ _ h => h) (by kernel_rfl) hH2 ?_
        simp only [Act.put, List.setIfInBounds_toArray, List.set_cons_zero, List.set_cons_succ]
        refine takeN 24 (some 36) rfl (by kernel_rfl) (by kernel_rfl) (by kernel_rfl) (by kernel_rfl) (fun _ _ _ h => h) (by kernel_rfl) hH2 ?_
        simp only [Act.put, List.setIfInBounds_toArray, List.set_cons_zero, List.set_cons_succ]
        refine takeN 25 (some 37) rfl (by kernel_rfl) (by kernel_rfl) (by kernel_rfl) (by kernel_rfl) (fun _ _ _ h => h) (by kernel_rfl) hH2 ?_
        simp only [Act.put, List.setIfInBounds_toArray, List.set_cons_zero, List.set_cons_succ]
        refine takeY (oi := { dst := some 38, op := Op.pick (Operand.tmp 24) (Operand.const (Value.bool true)) (Operand.tmp 37), type := 4, pos := "props.go:18", after := #[{ on := 12, ground := Ground.data }, { on := 25, ground := Ground.data }], guard := none }) 26 (some 38) (v := ?v26_1) rfl rfl (by kernel_rfl) (by kernel_rfl) (by kernel_rfl) (fun _ _ _ h => h) (by kernel_rfl) ?hy1 hH2 ?_
        case hy1 => (intro w_ hSw; (try dsimp only at hSw); go_simp; (first | done | with_reducible rfl | rw [if_neg (by omega)]))
        simp only [Act.put, List.setIfInBounds_toArray, List.set_cons_zero, List.set_cons_succ]
        refine wpAnyH_done (by kernel_rfl) ?_ _
        have hEnd := hH2
        clear hH2
        have HE := Lib.hid (propsRight_no (by rw [← HI.out, HS.out, hN]; rfl))
        go_wp2
        go_ret
        exact ⟨ret_bool HE.out.symm, hEnd.2.2.2.2⟩
      | true => 
      cases hV : SValue.ok ⟨y1, y2, y3⟩ with
      | false =>
        go_wp2_with fail
        refine wp_region_held_drew (S := (fun w' => w'.cell? ⟨wr.heap.size, 0, none⟩ = some (.string y0) ∧ w'.cell? ⟨wr.heap.size, 1, none⟩ = some (.int .i64 y1) ∧ w'.cell? ⟨wr.heap.size, 2, none⟩ = some (.int .i64 y2) ∧ w'.cell? ⟨wr.heap.size, 3, none⟩ = some (.string y3) ∧ Below w.heap.size w w')) (by kernel_rfl) ?hS2 (fun hH0 => ?_)
        case hS2 => refine ⟨by go_keep, by go_keep, by go_keep, by go_keep, below_drew (HB.out.alloc HB.out.size _)⟩
        refine takeY (oi := { dst := some 12, op := Op.fieldAddr 117 (Operand.tmp 4) 0, type := 0, pos := "props.go:18", after := #[], guard := none }) 0 (some 12) (v := ?v0_2) rfl rfl (by kernel_rfl) (by kernel_rfl) (by kernel_rfl) (fun _ _ _ h => h) (by kernel_rfl) ?hy2 hH0 ?_
        case hy2 => (intro w_ hSw; (try dsimp only at hSw); go_simp; (first | done | with_reducible rfl | rw [if_neg (by omega)]))
        simp only [Act.put, List.setIfInBounds_toArray, List.set_cons_zero, List.set_cons_succ]
        refine takeY (oi := { dst := some 13, op := Op.load 9 (Operand.tmp 12), type := 9, pos := "props.go:18", after := #[{ on := 0, ground := Ground.data }], guard := none }) 1 (some 13) (v := ?v1_2) rfl rfl (by kernel_rfl) (by kernel_rfl) (by kernel_rfl) (fun _ _ _ h => h) (by kernel_rfl) ?hy2 hH0 ?_
        case hy2 => (intro w_ hSw; (try dsimp only at hSw); go_simp; (first | done | with_reducible rfl | rw [if_neg (by omega)]))
        simp only [Act.put, List.setIfInBounds_toArray, List.set_cons_zero, List.set_cons_succ]
        refine wpAnyH_ready (rs := [2]) (by kernel_rfl) (by simp) ?_
        refine AllReadyH.cons (o := { dst := some 14, op := Op.buildSlice 174 1 #[(0, Operand.tmp 13)], type := 174, pos := "props.go:18", after := #[{ on := 1, ground := Ground.data }], guard := none }) rfl (fun K1 hK1 => ?_) AllReadyH.nil
        go_simp
        refine hK1.out _ _ ?hS2 (fun hH1 => ?_)
        case hS2 => ((try dsimp only); (first | exact keepB4 (by assumption) (by assumption) | exact keepB4 (below_al _ _) (by assumption)))
        clear hK1 K1
        (try clear hH0)
        (try simp only [Act.put, List.setIfInBounds_toArray, List.set_cons_zero, List.set_cons_succ])
        refine wpAnyH_ready (rs := [3]) (by kernel_rfl) (by simp) ?_
        refine AllReadyH.cons (o := { dst := some 15, op := Op.call { callee := Callee.value (Operand.func 85), args := #[Operand.tmp 14], argTypes := #[174] }, type := 4, pos := "props.go:18", after := #[{ on := 2, ground := Ground.data }], guard := none }) rfl (fun K2 hK2 => ?_) AllReadyH.nil
        go_simp; refine (letter_Right_one _ 1 y0 _ ?hC2 ?hs2 true hN).mono ?_; (case hC2 => exact C_boxd Kd.string (by decide) _ _ (by simp) y0 #[.string y0] _ rfl); (case hs2 => omega); rintro e w2 ⟨rfl, hb2⟩
        refine hK2.out _ _ ?hS2 (fun hH2 => ?_)
        case hS2 => ((try dsimp only); (first | exact keepB4 (by assumption) (by assumption) | exact keepB4 (below_al _ _) (by assumption)))
        clear hK2 K2
        (try clear hH1)
        (try simp only [Act.put, List.setIfInBounds_toArray, List.set_cons_zero, List.set_cons_succ])
        refine takeY (oi := { dst := some 16, op := Op.unOp UnOp.not 4 (Operand.tmp 15), type := 4, pos := "props.go:18", after := #[{ on := 3, ground := Ground.data }], guard := none }) 4 (some 16) (v := ?v4_2) rfl rfl (by kernel_rfl) (by kernel_rfl) (by kernel_rfl) (fun _ _ _ h => h) (by kernel_rfl) ?hy2 hH2 ?_
        case hy2 => (intro w_ hSw; (try dsimp only at hSw); go_simp; (first | done | with_reducible rfl | rw [if_neg (by omega)]))
        simp only [Act.put, List.setIfInBounds_toArray, List.set_cons_zero, List.set_cons_succ]
        refine takeY (oi := { dst := some 17, op := Op.move (Operand.tmp 16), type := 4, pos := "props.go:18", after := #[{ on := 4, ground := Ground.data }, { on := 3, ground := Ground.chain }], guard := none }) 5 (some 17) (v := ?v5_2) rfl rfl (by kernel_rfl) (by kernel_rfl) (by kernel_rfl) (fun _ _ _ h => h) (by kernel_rfl) ?hy2 hH2 ?_
        case hy2 => (intro w_ hSw; (try dsimp only at hSw); go_simp; (first | done | with_reducible rfl | rw [if_neg (by omega)]))
        simp only [Act.put, List.setIfInBounds_toArray, List.set_cons_zero, List.set_cons_succ]
        refine takeY (oi := { dst := some 18, op := Op.fieldAddr 117 (Operand.tmp 4) 1, type := 0, pos := "props.go:18", after := #[{ on := 5, ground := Ground.guard }], guard := some (5, false) }) 6 (some 18) (v := ?v6_2) rfl rfl (by kernel_rfl) (by kernel_rfl) (by kernel_rfl) (fun _ _ _ h => h) (by kernel_rfl) ?hy2 hH2 ?_
        case hy2 => (intro w_ hSw; (try dsimp only at hSw); go_simp; (first | done | with_reducible rfl | rw [if_neg (by omega)]))
        simp only [Act.put, List.setIfInBounds_toArray, List.set_cons_zero, List.set_cons_succ]
        refine takeY (oi := { dst := some 19, op := Op.load 42 (Operand.tmp 18), type := 42, pos := "props.go:18", after := #[{ on := 6, ground := Ground.data }, { on := 5, ground := Ground.guard }], guard := some (5, false) }) 7 (some 19) (v := ?v7_2) rfl rfl (by kernel_rfl) (by kernel_rfl) (by kernel_rfl) (fun _ _ _ h => h) (by kernel_rfl) ?hy2 hH2 ?_
        case hy2 => (intro w_ hSw; (try dsimp only at hSw); go_simp; (first | done | with_reducible rfl | rw [if_neg (by omega)]))
        simp only [Act.put, List.setIfInBounds_toArray, List.set_cons_zero, List.set_cons_succ]
        refine wpAnyH_ready (rs := [8]) (by kernel_rfl) (by simp) ?_
        refine AllReadyH.cons (o := { dst := some 20, op := Op.buildSlice 188 1 #[(0, Operand.tmp 19)], type := 188, pos := "props.go:18", after := #[{ on := 7, ground := Ground.data }, { on := 5, ground := Ground.guard }], guard := some (5, false) }) rfl (fun K3 hK3 => ?_) AllReadyH.nil
        go_simp
        refine hK3.out _ _ ?hS2 (fun hH3 => ?_)
        case hS2 => ((try dsimp only); (first | exact keepB4 (by assumption) (by assumption) | exact keepB4 (below_al _ _) (by assumption)))
        clear hK3 K3
        (try clear hH2)
        (try simp only [Act.put, List.setIfInBounds_toArray, List.set_cons_zero, List.set_cons_succ])
        refine wpAnyH_ready (rs := [9]) (by kernel_rfl) (by simp) ?_
        refine AllReadyH.cons (o := { dst := some 21, op := Op.call { callee := Callee.value (Operand.func 116), args := #[Operand.tmp 20], argTypes := #[188] }, type := 4, pos := "props.go:18", after := #[{ on := 8, ground := Ground.data }, { on := 5, ground := Ground.chain }, { on := 5, ground := Ground.guard }], guard := some (5, false) }) rfl (fun K4 hK4 => ?_) AllReadyH.nil
        go_simp; refine (value_Right_one _ 1 ⟨y1, y2, y3⟩ _ ?hC2 false hV).mono ?_; (case hC2 => exact C_boxg kValue (by decide) _ _ (by simp) ⟨y1, y2, y3⟩ #[.int .i64 y1, .int .i64 y2, .string y3] _ (kValue_mk _ _)); rintro e w3 ⟨rfl, hb3⟩
        refine hK4.out _ _ ?hS2 (fun hH4 => ?_)
        case hS2 => ((try dsimp only); (first | exact keepB4 (by assumption) (by assumption) | exact keepB4 (below_al _ _) (by assumption)))
        clear hK4 K4
        (try clear hH3)
        (try simp only [Act.put, List.setIfInBounds_toArray, List.set_cons_zero, List.set_cons_succ])
        refine takeY (oi := { dst := some 22, op := Op.unOp UnOp.not 4 (Operand.tmp 21), type := 4, pos := "props.go:18", after := #[{ on := 9, ground := Ground.data }, { on := 5, ground := Ground.guard }], guard := some (5, false) }) 10 (some 22) (v := ?v10_2) rfl rfl (by kernel_rfl) (by kernel_rfl) (by kernel_rfl) (fun _ _ _ h => h) (by kernel_rfl) ?hy2 hH4 ?_
        case hy2 => (intro w_ hSw; (try dsimp only at hSw); go_simp; (first | done | with_reducible rfl | rw [if_neg (by omega)]))
        simp only [Act.put, List.setIfInBounds_toArray, List.set_cons_zero, List.set_cons_succ]
        refine takeY (oi := { dst := some 23, op := Op.pick (Operand.tmp 17) (Operand.const (Value.bool true)) (Operand.tmp 22), type := 4, pos := "props.go:18", after := #[{ on := 5, ground := Ground.data }, { on := 10, ground := Ground.data }], guard := none }) 11 (some 23) (v := ?v11_2) rfl rfl (by kernel_rfl) (by kernel_rfl) (by kernel_rfl) (fun _ _ _ h => h) (by kernel_rfl) ?hy2 hH4 ?_
        case hy2 => (intro w_ hSw; (try dsimp only at hSw); go_simp; (first | done | with_reducible rfl | rw [if_neg (by omega)]))
        simp only [Act.put, List.setIfInBounds_toArray, List.set_cons_zero, List.set_cons_succ]
        refine takeY (oi := { dst := some 24, op := Op.move (Operand.tmp 23), type := 4, pos := "props.go:18", after := #[{ on := 11, ground := Ground.data }, { on := 9, ground := Ground.chain }], guard := none }) 12 (some 24) (v := ?v12_2) rfl rfl (by kernel_rfl) (by kernel_rfl) (by kernel_rfl) (fun _ _ _ h => h) (by kernel_rfl) ?hy2 hH4 ?_
        case hy2 => (intro w_ hSw; (try dsimp only at hSw); go_simp; (first | done | with_reducible rfl | rw [if_neg (by omega)]))
        simp only [Act.put, List.setIfInBounds_toArray, List.set_cons_zero, List.set_cons_succ]
        refine takeN 13 (some 25) rfl (by kernel_rfl) (by kernel_rfl) (by kernel_rfl) (by kernel_rfl) (fun _ _ _ h => h) (by kernel_rfl) hH4 ?_
        simp only [Act.put, List.setIfInBounds_toArray, List.set_cons_zero, List.set_cons_succ]
        refine takeN 14 (some 26) rfl (by kernel_rfl) (by kernel_rfl) (by kernel_rfl) (by kernel_rfl) (fun _ _ _ h => h) (by kernel_rfl) hH4 ?_
        simp only [Act.put, List.setIfInBounds_toArray, List.set_cons_zero, List.set_cons_succ]
        refine takeN 15 (some 27) rfl (by kernel_rfl) (by kernel_rfl) (by kernel_rfl) (by kernel_rfl) (fun _ _ _ h => h) (by kernel_rfl) hH4 ?_
        simp only [Act.put, List.setIfInBounds_toArray, List.set_cons_zero, List.set_cons_succ]
        refine takeN 16 (some 28) rfl (by kernel_rfl) (by kernel_rfl) (by kernel_rfl) (by kernel_rfl) (fun _ _ _ h => h) (by kernel_rfl) hH4 ?_
        simp only [Act.put, List.setIfInBounds_toArray, List.set_cons_zero, List.set_cons_succ]
        refine takeN 17 (some 29) rfl (by kernel_rfl) (by kernel_rfl) (by kernel_rfl) (by kernel_rfl) (fun _ _ _ h => h) (by kernel_rfl) hH4 ?_
        simp only [Act.put, List.setIfInBounds_toArray, List.set_cons_zero, List.set_cons_succ]
        refine takeN 18 (some 30) rfl (by kernel_rfl) (by kernel_rfl) (by kernel_rfl) (by kernel_rfl) (fun _ _ _ h => h) (by kernel_rfl) hH4 ?_
        simp only [Act.put, List.setIfInBounds_toArray, List.set_cons_zero, List.set_cons_succ]
        refine takeN 19 (some 31) rfl (by kernel_rfl) (by kernel_rfl) (by kernel_rfl) (by kernel_rfl) (fun _ _ _ h => h) (by kernel_rfl) hH4 ?_
        simp only [Act.put, List.setIfInBounds_toArray, List.set_cons_zero, List.set_cons_succ]
        refine takeN 20 (some 32) rfl (by kernel_rfl) (by kernel_rfl) (by kernel_rfl) (by kernel_rfl) (fun _ _ _ h => h) (by kernel_rfl) hH4 ?_
        simp only [Act.put, List.setIfInBounds_toArray, List.set_cons_zero, List.set_cons_succ]
        refine takeN 21 (some 33) rfl (by kernel_rfl) (by kernel_rfl) (by kernel_rfl) (by kernel_rfl) (fun _ _ _ h => h) (by kernel_rfl) hH4 ?_
        simp only [Act.put, List.setIfInBounds_toArray, List.set_cons_zero, List.set_cons_succ]
        refine takeN 22 (some 34) rfl (by kernel_rfl) (by kernel_rfl) (by kernel_rfl) (by kernel_rfl) (fun _ _ _ h => h) (by kernel_rfl) hH4 ?_
        simp only [Act.put, List.setIfInBounds_toArray, List.set_cons_zero, List.set_cons_succ]
        refine takeN 23 (some 35) rfl (by kernel_rfl) (by kernel_rfl) (by kernel_rfl) (by kernel_rfl) (fun _ _ _ h => h) (by kernel_rfl) hH4 ?_
        simp only [Act.put, List.setIfInBounds_toArray, List.set_cons_zero, List.set_cons_succ]
        refine takeN 24 (some 36) rfl (by kernel_rfl) (by kernel_rfl) (by kernel_rfl) (by kernel_rfl) (fun _ _ _ h => h) (by kernel_rfl) hH4 ?_
        simp only [Act.put, List.setIfInBounds_toArray, List.set_cons_zero, List.set_cons_succ]
        refine takeN 25 (some 37) rfl (by kernel_rfl) (by kernel_rfl) (by kernel_rfl) (by kernel_rfl) (fun _ _ _ h => h) (by kernel_rfl) hH4 ?_
        simp only [Act.put, List.setIfInBounds_toArray, List.set_cons_zero, List.set_cons_succ]
        refine takeY (oi := { dst := some 38, op := Op.pick (Operand.tmp 24) (Operand.const (Value.bool true)) (Operand.tmp 37), type := 4, pos := "props.go:18", after := #[{ on := 12, ground := Ground.data }, { on := 25, ground := Ground.data }], guard := none }) 26 (some 38) (v := ?v26_2) rfl rfl (by kernel_rfl) (by kernel_rfl) (by kernel_rfl) (fun _ _ _ h => h) (by kernel_rfl) ?hy2 hH4 ?_
        case hy2 => (intro w_ hSw; (try dsimp only at hSw); go_simp; (first | done | with_reducible rfl | rw [if_neg (by omega)]))
        simp only [Act.put, List.setIfInBounds_toArray, List.set_cons_zero, List.set_cons_succ]
        refine wpAnyH_done (by kernel_rfl) ?_ _
        have hEnd := hH4
        clear hH4
        have HE := Lib.hid (propsRight_no (by rw [← HI.out, HS.out, hN, hV]; rfl))
        go_wp2
        go_ret
        exact ⟨ret_bool HE.out.symm, hEnd.2.2.2.2⟩
      | true =>
      by_cases hk0 : k = 0
      · subst hk0
        simp only [Nat.zero_mul, add_zero_] at g0 g1 g2 g3
        go_wp2_with fail
        refine wp_region_held_drew (S := (fun w' => w'.cell? ⟨wr.heap.size, 0, none⟩ = some (.string y0) ∧ w'.cell? ⟨wr.heap.size, 1, none⟩ = some (.int .i64 y1) ∧ w'.cell? ⟨wr.heap.size, 2, none⟩ = some (.int .i64 y2) ∧ w'.cell? ⟨wr.heap.size, 3, none⟩ = some (.string y3) ∧ Below w.heap.size w w')) (by kernel_rfl) ?hS3 (fun hH0 => ?_)
        case hS3 => refine ⟨by go_keep, by go_keep, by go_keep, by go_keep, below_drew (HB.out.alloc HB.out.size _)⟩
        refine takeY (oi := { dst := some 12, op := Op.fieldAddr 117 (Operand.tmp 4) 0, type := 0, pos := "props.go:18", after := #[], guard := none }) 0 (some 12) (v := ?v0_3) rfl rfl (by kernel_rfl) (by kernel_rfl) (by kernel_rfl) (fun _ _ _ h => h) (by kernel_rfl) ?hy3 hH0 ?_
        case hy3 => (intro w_ hSw; (try dsimp only at hSw); go_simp; (first | done | with_reducible rfl | rw [if_neg (by omega)]))
        simp only [Act.put, List.setIfInBounds_toArray, List.set_cons_zero, List.set_cons_succ]
        refine takeY (oi := { dst := some 13, op := Op.load 9 (Operand.tmp 12), type := 9, pos := "props.go:18", after := #[{ on := 0, ground := Ground.data }], guard := none }) 1 (some 13) (v := ?v1_3) rfl rfl (by kernel_rfl) (by kernel_rfl) (by kernel_rfl) (fun _ _ _ h => h) (by kernel_rfl) ?hy3 hH0 ?_
        case hy3 => (intro w_ hSw; (try dsimp only at hSw); go_simp; (first | done | with_reducible rfl | rw [if_neg (by omega)]))
        simp only [Act.put, List.setIfInBounds_toArray, List.set_cons_zero, List.set_cons_succ]
        refine wpAnyH_ready (rs := [2]) (by kernel_rfl) (by simp) ?_
        refine AllReadyH.cons (o := { dst := some 14, op := Op.buildSlice 174 1 #[(0, Operand.tmp 13)], type := 174, pos := "props.go:18", after := #[{ on := 1, ground := Ground.data }], guard := none }) rfl (fun K1 hK1 => ?_) AllReadyH.nil
        go_simp
        refine hK1.out _ _ ?hS3 (fun hH1 => ?_)
        case hS3 => ((try dsimp only); (first | exact keepB4 (by assumption) (by assumption) | exact keepB4 (below_al _ _) (by assumption)))
        clear hK1 K1
        (try clear hH0)
        (try simp only [Act.put, List.setIfInBounds_toArray, List.set_cons_zero, List.set_cons_succ])
        refine wpAnyH_ready (rs := [3]) (by kernel_rfl) (by simp) ?_
        refine AllReadyH.cons (o := { dst := some 15, op := Op.call { callee := Callee.value (Operand.func 85), args := #[Operand.tmp 14], argTypes := #[174] }, type := 4, pos := "props.go:18", after := #[{ on := 2, ground := Ground.data }], guard := none }) rfl (fun K2 hK2 => ?_) AllReadyH.nil
        go_simp; refine (letter_Right_one _ 1 y0 _ ?hC3 ?hs3 true hN).mono ?_; (case hC3 => exact C_boxd Kd.string (by decide) _ _ (by simp) y0 #[.string y0] _ rfl); (case hs3 => omega); rintro e w2 ⟨rfl, hb2⟩
        refine hK2.out _ _ ?hS3 (fun hH2 => ?_)
        case hS3 => ((try dsimp only); (first | exact keepB4 (by assumption) (by assumption) | exact keepB4 (below_al _ _) (by assumption)))
        clear hK2 K2
        (try clear hH1)
        (try simp only [Act.put, List.setIfInBounds_toArray, List.set_cons_zero, List.set_cons_succ])
        refine takeY (oi := { dst := some 16, op := Op.unOp UnOp.not 4 (Operand.tmp 15), type := 4, pos := "props.go:18", after := #[{ on := 3, ground := Ground.data }], guard := none }) 4 (some 16) (v := ?v4_3) rfl rfl (by kernel_rfl) (by kernel_rfl) (by kernel_rfl) (fun _ _ _ h => h) (by kernel_rfl) ?hy3 hH2 ?_
        case hy3 => (intro w_ hSw; (try dsimp only at hSw); go_simp; (first | done | with_reducible rfl | rw [if_neg (by omega)]))
        simp only [Act.put, List.setIfInBounds_toArray, List.set_cons_zero, List.set_cons_succ]
        refine takeY (oi := { dst := some 17, op := Op.move (Operand.tmp 16), type := 4, pos := "props.go:18", after := #[{ on := 4, ground := Ground.data }, { on := 3, ground := Ground.chain }], guard := none }) 5 (some 17) (v := ?v5_3) rfl rfl (by kernel_rfl) (by kernel_rfl) (by kernel_rfl) (fun _ _ _ h => h) (by kernel_rfl) ?hy3 hH2 ?_
        case hy3 => (intro w_ hSw; (try dsimp only at hSw); go_simp; (first | done | with_reducible rfl | rw [if_neg (by omega)]))
        simp only [Act.put, List.setIfInBounds_toArray, List.set_cons_zero, List.set_cons_succ]
        refine takeY (oi := { dst := some 18, op := Op.fieldAddr 117 (Operand.tmp 4) 1, type := 0, pos := "props.go:18", after := #[{ on := 5, ground := Ground.guard }], guard := some (5, false) }) 6 (some 18) (v := ?v6_3) rfl rfl (by kernel_rfl) (by kernel_rfl) (by kernel_rfl) (fun _ _ _ h => h) (by kernel_rfl) ?hy3 hH2 ?_
        case hy3 => (intro w_ hSw; (try dsimp only at hSw); go_simp; (first | done | with_reducible rfl | rw [if_neg (by omega)]))
        simp only [Act.put, List.setIfInBounds_toArray, List.set_cons_zero, List.set_cons_succ]
        refine takeY (oi := { dst := some 19, op := Op.load 42 (Operand.tmp 18), type := 42, pos := "props.go:18", after := #[{ on := 6, ground := Ground.data }, { on := 5, ground := Ground.guard }], guard := some (5, false) }) 7 (some 19) (v := ?v7_3) rfl rfl (by kernel_rfl) (by kernel_rfl) (by kernel_rfl) (fun _ _ _ h => h) (by kernel_rfl) ?hy3 hH2 ?_
        case hy3 => (intro w_ hSw; (try dsimp only at hSw); go_simp; (first | done | with_reducible rfl | rw [if_neg (by omega)]))
        simp only [Act.put, List.setIfInBounds_toArray, List.set_cons_zero, List.set_cons_succ]
        refine wpAnyH_ready (rs := [8]) (by kernel_rfl) (by simp) ?_
        refine AllReadyH.cons (o := { dst := some 20, op := Op.buildSlice 188 1 #[(0, Operand.tmp 19)], type := 188, pos := "props.go:18", after := #[{ on := 7, ground := Ground.data }, { on := 5, ground := Ground.guard }], guard := some (5, false) }) rfl (fun K3 hK3 => ?_) AllReadyH.nil
        go_simp
        refine hK3.out _ _ ?hS3 (fun hH3 => ?_)
        case hS3 => ((try dsimp only); (first | exact keepB4 (by assumption) (by assumption) | exact keepB4 (below_al _ _) (by assumption)))
        clear hK3 K3
        (try clear hH2)
        (try simp only [Act.put, List.setIfInBounds_toArray, List.set_cons_zero, List.set_cons_succ])
        refine wpAnyH_ready (rs := [9]) (by kernel_rfl) (by simp) ?_
        refine AllReadyH.cons (o := { dst := some 21, op := Op.call { callee := Callee.value (Operand.func 116), args := #[Operand.tmp 20], argTypes := #[188] }, type := 4, pos := "props.go:18", after := #[{ on := 8, ground := Ground.data }, { on := 5, ground := Ground.chain }, { on := 5, ground := Ground.guard }], guard := some (5, false) }) rfl (fun K4 hK4 => ?_) AllReadyH.nil
        go_simp; refine (value_Right_one _ 1 ⟨y1, y2, y3⟩ _ ?hC3 true hV).mono ?_; (case hC3 => exact C_boxg kValue (by decide) _ _ (by simp) ⟨y1, y2, y3⟩ #[.int .i64 y1, .int .i64 y2, .string y3] _ (kValue_mk _ _)); rintro e w3 ⟨rfl, hb3⟩
        refine hK4.out _ _ ?hS3 (fun hH4 => ?_)
        case hS3 => ((try dsimp only); (first | exact keepB4 (by assumption) (by assumption) | exact keepB4 (below_al _ _) (by assumption)))
        clear hK4 K4
        (try clear hH3)
        (try simp only [Act.put, List.setIfInBounds_toArray, List.set_cons_zero, List.set_cons_succ])
        refine takeY (oi := { dst := some 22, op := Op.unOp UnOp.not 4 (Operand.tmp 21), type := 4, pos := "props.go:18", after := #[{ on := 9, ground := Ground.data }, { on := 5, ground := Ground.guard }], guard := some (5, false) }) 10 (some 22) (v := ?v10_3) rfl rfl (by kernel_rfl) (by kernel_rfl) (by kernel_rfl) (fun _ _ _ h => h) (by kernel_rfl) ?hy3 hH4 ?_
        case hy3 => (intro w_ hSw; (try dsimp only at hSw); go_simp; (first | done | with_reducible rfl | rw [if_neg (by omega)]))
        simp only [Act.put, List.setIfInBounds_toArray, List.set_cons_zero, List.set_cons_succ]
        refine takeY (oi := { dst := some 23, op := Op.pick (Operand.tmp 17) (Operand.const (Value.bool true)) (Operand.tmp 22), type := 4, pos := "props.go:18", after := #[{ on := 5, ground := Ground.data }, { on := 10, ground := Ground.data }], guard := none }) 11 (some 23) (v := ?v11_3) rfl rfl (by kernel_rfl) (by kernel_rfl) (by kernel_rfl) (fun _ _ _ h => h) (by kernel_rfl) ?hy3 hH4 ?_
        case hy3 => (intro w_ hSw; (try dsimp only at hSw); go_simp; (first | done | with_reducible rfl | rw [if_neg (by omega)]))
        simp only [Act.put, List.setIfInBounds_toArray, List.set_cons_zero, List.set_cons_succ]
        refine takeY (oi := { dst := some 24, op := Op.move (Operand.tmp 23), type := 4, pos := "props.go:18", after := #[{ on := 11, ground := Ground.data }, { on := 9, ground := Ground.chain }], guard := none }) 12 (some 24) (v := ?v12_3) rfl rfl (by kernel_rfl) (by kernel_rfl) (by kernel_rfl) (fun _ _ _ h => h) (by kernel_rfl) ?hy3 hH4 ?_
        case hy3 => (intro w_ hSw; (try dsimp only at hSw); go_simp; (first | done | with_reducible rfl | rw [if_neg (by omega)]))
        simp only [Act.put, List.setIfInBounds_toArray, List.set_cons_zero, List.set_cons_succ]
        refine takeY (oi := { dst := some 25, op := Op.move (Operand.tmp 3), type := 3, pos := "props.go:18", after := #[{ on := 12, ground := Ground.guard }], guard := some (12, false) }) 13 (some 25) (v := ?v13_3) rfl rfl (by kernel_rfl) (by kernel_rfl) (by kernel_rfl) (fun _ _ _ h => h) (by kernel_rfl) ?hy3 hH4 ?_
        case hy3 => (intro w_ hSw; (try dsimp only at hSw); go_simp; (first | done | with_reducible rfl | rw [if_neg (by omega)]))
        simp only [Act.put, List.setIfInBounds_toArray, List.set_cons_zero, List.set_cons_succ]
        refine takeY (oi := { dst := some 26, op := Op.binOp BinOp.gtr 3 (Operand.tmp 25) (Operand.const (Value.int IntKind.i64 0)) 3, type := 4, pos := "props.go:18", after := #[{ on := 13, ground := Ground.data }, { on := 12, ground := Ground.guard }], guard := some (12, false) }) 14 (some 26) (v := ?v14_3) rfl rfl (by kernel_rfl) (by kernel_rfl) (by kernel_rfl) (fun _ _ _ h => h) (by kernel_rfl) ?hy3 hH4 ?_
        case hy3 => (intro w_ hSw; (try dsimp only at hSw); go_simp; (first | done | with_reducible rfl | rw [if_neg (by omega)]))
        simp only [Act.put, List.setIfInBounds_toArray, List.set_cons_zero, List.set_cons_succ]
        refine takeY (oi := { dst := some 27, op := Op.move (Operand.tmp 26), type := 4, pos := "props.go:18", after := #[{ on := 14, ground := Ground.data }, { on := 12, ground := Ground.chain }, { on := 12, ground := Ground.guard }], guard := some (12, false) }) 15 (some 27) (v := ?v15_3) rfl rfl (by kernel_rfl) (by kernel_rfl) (by kernel_rfl) (fun _ _ _ h => h) (by kernel_rfl) ?hy3 hH4 ?_
        case hy3 => (intro w_ hSw; (try dsimp only at hSw); go_simp; (first | done | with_reducible rfl | rw [if_neg (by omega)]))
        simp only [Act.put, List.setIfInBounds_toArray, List.set_cons_zero, List.set_cons_succ]
        refine takeN 16 (some 28) rfl (by kernel_rfl) (by kernel_rfl) (by kernel_rfl) (by kernel_rfl) (fun _ _ _ h => h) (by kernel_rfl) hH4 ?_
        simp only [Act.put, List.setIfInBounds_toArray, List.set_cons_zero, List.set_cons_succ]
        refine takeN 17 (some 29) rfl (by kernel_rfl) (by kernel_rfl) (by kernel_rfl) (by kernel_rfl) (fun _ _ _ h => h) (by kernel_rfl) hH4 ?_
        simp only [Act.put, List.setIfInBounds_toArray, List.set_cons_zero, List.set_cons_succ]
        refine takeN 18 (some 30) rfl (by kernel_rfl) (by kernel_rfl) (by kernel_rfl) (by kernel_rfl) (fun _ _ _ h => h) (by kernel_rfl) hH4 ?_
        simp only [Act.put, List.setIfInBounds_toArray, List.set_cons_zero, List.set_cons_succ]
        refine takeN 19 (some 31) rfl (by kernel_rfl) (by kernel_rfl) (by kernel_rfl) (by kernel_rfl) (fun _ _ _ h => h) (by kernel_rfl) hH4 ?_
        simp only [Act.put, List.setIfInBounds_toArray, List.set_cons_zero, List.set_cons_succ]
        refine takeN 20 (some 32) rfl (by kernel_rfl) (by kernel_rfl) (by kernel_rfl) (by kernel_rfl) (fun _ _ _ h => h) (by kernel_rfl) hH4 ?_
        simp only [Act.put, List.setIfInBounds_toArray, List.set_cons_zero, List.set_cons_succ]
        refine takeN 21 (some 33) rfl (by kernel_rfl) (by kernel_rfl) (by kernel_rfl) (by kernel_rfl) (fun _ _ _ h => h) (by kernel_rfl) hH4 ?_
        simp only [Act.put, List.setIfInBounds_toArray, List.set_cons_zero, List.set_cons_succ]
        refine takeN 22 (some 34) rfl (by kernel_rfl) (by kernel_rfl) (by kernel_rfl) (by kernel_rfl) (fun _ _ _ h => h) (by kernel_rfl) hH4 ?_
        simp only [Act.put, List.setIfInBounds_toArray, List.set_cons_zero, List.set_cons_succ]
        refine takeN 23 (some 35) rfl (by kernel_rfl) (by kernel_rfl) (by kernel_rfl) (by kernel_rfl) (fun _ _ _ h => h) (by kernel_rfl) hH4 ?_
        simp only [Act.put, List.setIfInBounds_toArray, List.set_cons_zero, List.set_cons_succ]
        refine takeN 24 (some 36) rfl (by kernel_rfl) (by kernel_rfl) (by kernel_rfl) (by kernel_rfl) (fun _ _ _ h => h) (by kernel_rfl) hH4 ?_
        simp only [Act.put, List.setIfInBounds_toArray, List.set_cons_zero, List.set_cons_succ]
        refine takeY (oi := { dst := some 37, op := Op.pick (Operand.tmp 27) (Operand.tmp 36) (Operand.const (Value.bool false)), type := 4, pos := "props.go:18", after := #[{ on := 15, ground := Ground.data }, { on := 24, ground := Ground.data }, { on := 12, ground := Ground.guard }], guard := some (12, false) }) 25 (some 37) (v := ?v25_3) rfl rfl (by kernel_rfl) (by kernel_rfl) (by kernel_rfl) (fun _ _ _ h => h) (by kernel_rfl) ?hy3 hH4 ?_
        case hy3 => (intro w_ hSw; (try dsimp only at hSw); go_simp; (first | done | with_reducible rfl | rw [if_neg (by omega)]))
        simp only [Act.put, List.setIfInBounds_toArray, List.set_cons_zero, List.set_cons_succ]
        refine takeY (oi := { dst := some 38, op := Op.pick (Operand.tmp 24) (Operand.const (Value.bool true)) (Operand.tmp 37), type := 4, pos := "props.go:18", after := #[{ on := 12, ground := Ground.data }, { on := 25, ground := Ground.data }], guard := none }) 26 (some 38) (v := ?v26_3) rfl rfl (by kernel_rfl) (by kernel_rfl) (by kernel_rfl) (fun _ _ _ h => h) (by kernel_rfl) ?hy3 hH4 ?_
        case hy3 => (intro w_ hSw; (try dsimp only at hSw); go_simp; (first | done | with_reducible rfl | rw [if_neg (by omega)]))
        simp only [Act.put, List.setIfInBounds_toArray, List.set_cons_zero, List.set_cons_succ]
        refine wpAnyH_done (by kernel_rfl) ?_ _
        have hEnd := hH4
        clear hH4
        have HB2 := Lib.hid (hEnd.2.2.2.2)
        have HE := Lib.hid (HS.out.symm.trans HI.out)
        rw [hN, hV] at HE
        go_wp2
        go_roundw
        case rel => exact ⟨1, by omega, by go_num, HB2, Lib.hid (by rw [← HE.out]; simp [prevAt])⟩
        case measure => simp [intOf]; omega
      · obtain ⟨m, rfl⟩ : ∃ m, k = m + 1 := ⟨k - 1, by omega⟩
        obtain ⟨ad', e, f0, f1, f2, f3⟩ := at_Prp (Kd.C_below HX.out HB.out) (m : Int) (by omega) (by omega)
        obtain rfl : ad = ad' := by injection e
        clear e
        simp only [Int.toNat_natCast, rd_Prp] at f0 f1 f2 f3
        have hmem2 := HF.out (l.getD m zPrp) (by simp [List.getD_eq_getElem?_getD, List.getElem?_eq_getElem (show m < l.length by omega)])
        have HP : Hid (prevAt l (m + 1) = some (l.getD m zPrp).f0) := Lib.hid (by simp [prevAt])
        cases hx : l.getD m zPrp with
        | mk x0 xv =>
        cases xv with
        | mk x1 x2 x3 =>
        rw [hx] at f0 f1 f2 f3 HP hmem2
        simp only at f0 f1 f2 f3 hmem2
        clear hx
        have hwr : IntKind.i64.wrap (m : Int) = (m : Int) := IntWalk.i64_in _ (by omega)
        have hm1 : (0 : Int) ≤ (m : Int) := by omega
        have hm2 : (m : Int) < (l.length : Int) := by omega
        by_cases hC : cmpS x0 y0 < 0
        · have HS2 := Lib.hid (show propsFrom (prevAt l (m + 1)) (l.drop (m + 1)) = propsFrom (prevAt l (m + 1 + 1)) (l.drop (m + 1 + 1)) by rw [HS.out, hN, hV, HP.out]; simp [hC])
          go_wp2_with fail
          refine wp_region_held_drew (S := (fun w' => w'.cell? ⟨wr.heap.size, 0, none⟩ = some (.string y0) ∧ w'.cell? ⟨wr.heap.size, 1, none⟩ = some (.int .i64 y1) ∧ w'.cell? ⟨wr.heap.size, 2, none⟩ = some (.int .i64 y2) ∧ w'.cell? ⟨wr.heap.size, 3, none⟩ = some (.string y3) ∧ w'.cell? (ad.add (m * 4)) = some (.string x0) ∧ w'.cell? ⟨(ad.add (m * 4)).block, (ad.add (m * 4)).off + 1, none⟩ = some (.int .i64 x1) ∧ w'.cell? ⟨(ad.add (m * 4)).block, (ad.add (m * 4)).off + 2, none⟩ = some (.int .i64 x2) ∧ w'.cell? ⟨(ad.add (m * 4)).block, (ad.add (m * 4)).off + 3, none⟩ = some (.string x3) ∧ Below w.heap.size w w')) (by kernel_rfl) ?hS4 (fun hH0 => ?_)
          case hS4 => refine ⟨by go_keep, by go_keep, by go_keep, by go_keep, by go_keep, by go_keep, by go_keep, by go_keep, below_drew (HB.out.alloc HB.out.size _)⟩
          refine takeY (oi := { dst := some 12, op := Op.fieldAddr 117 (Operand.tmp 4) 0, type := 0, pos := "props.go:18", after := #[], guard := none }) 0 (some 12) (v := ?v0_4) rfl rfl (by kernel_rfl) (by kernel_rfl) (by kernel_rfl) (fun _ _ _ h => h) (by kernel_rfl) ?hy4 hH0 ?_
          case hy4 => (intro w_ hSw; (try dsimp only at hSw); go_simp; (first | done | with_reducible rfl | rw [if_neg (by omega)]))
          simp only [Act.put, List.setIfInBounds_toArray, List.set_cons_zero, List.set_cons_succ]
          refine takeY (oi := { dst := some 13, op := Op.load 9 (Operand.tmp 12), type := 9, pos := "props.go:18", after := #[{ on := 0, ground := Ground.data }], guard := none }) 1 (some 13) (v := ?v1_4) rfl rfl (by kernel_rfl) (by kernel_rfl) (by kernel_rfl) (fun _ _ _ h => h) (by kernel_rfl) ?hy4 hH0 ?_
          case hy4 => (intro w_ hSw; (try dsimp only at hSw); go_simp; (first | done | with_reducible rfl | rw [if_neg (by omega)]))
          simp only [Act.put, List.setIfInBounds_toArray, List.set_cons_zero, List.set_cons_succ]
          refine wpAnyH_ready (rs := [2]) (by kernel_rfl) (by simp) ?_
          refine AllReadyH.cons (o := { dst := some 14, op := Op.buildSlice 174 1 #[(0, Operand.tmp 13)], type := 174, pos := "props.go:18", after := #[{ on := 1, ground := Ground.data }], guard := none }) rfl (fun K1 hK1 => ?_) AllReadyH.nil
          go_simp
          refine hK1.out _ _ ?hS4 (fun hH1 => ?_)
          case hS4 => ((try dsimp only); (first | exact keepB8 (by assumption) (by assumption) | exact keepB8 (below_al _ _) (by assumption)))
          clear hK1 K1
          (try clear hH0)
          (try simp only [Act.put, List.setIfInBounds_toArray, List.set_cons_zero, List.set_cons_succ])
          refine wpAnyH_ready (rs := [3]) (by kernel_rfl) (by simp) ?_
          refine AllReadyH.cons (o := { dst := some 15, op := Op.call { callee := Callee.value (Operand.func 85), args := #[Operand.tmp 14], argTypes := #[174] }, type := 4, pos := "props.go:18", after := #[{ on := 2, ground := Ground.data }], guard := none }) rfl (fun K2 hK2 => ?_) AllReadyH.nil
          go_simp; refine (letter_Right_one _ 1 y0 _ ?hC4 ?hs4 true hN).mono ?_; (case hC4 => exact C_boxd Kd.string (by decide) _ _ (by simp) y0 #[.string y0] _ rfl); (case hs4 => omega); rintro e w2 ⟨rfl, hb2⟩
          refine hK2.out _ _ ?hS4 (fun hH2 => ?_)
          case hS4 => ((try dsimp only); (first | exact keepB8 (by assumption) (by assumption) | exact keepB8 (below_al _ _) (by assumption)))
          clear hK2 K2
          (try clear hH1)
          (try simp only [Act.put, List.setIfInBounds_toArray, List.set_cons_zero, List.set_cons_succ])
          refine takeY (oi := { dst := some 16, op := Op.unOp UnOp.not 4 (Operand.tmp 15), type := 4, pos := "props.go:18", after := #[{ on := 3, ground := Ground.data }], guard := none }) 4 (some 16) (v := ?v4_4) rfl rfl (by kernel_rfl) (by kernel_rfl) (by kernel_rfl) (fun _ _ _ h => h) (by kernel_rfl) ?hy4 hH2 ?_
          case hy4 => (intro w_ hSw; (try dsimp only at hSw); go_simp; (first | done | with_reducible rfl | rw [if_neg (by omega)]))
          simp only [Act.put, List.setIfInBounds_toArray, List.set_cons_zero, List.set_cons_succ]
          refine takeY (oi := { dst := some 17, op := Op.move (Operand.tmp 16), type := 4, pos := "props.go:18", after := #[{ on := 4, ground := Ground.data }, { on := 3, ground := Ground.chain }], guard := none }) 5 (some 17) (v := ?v5_4) rfl rfl (by kernel_rfl) (by kernel_rfl) (by kernel_rfl) (fun _ _ _ h => h) (by kernel_rfl) ?hy4 hH2 ?_
          case hy4 => (intro w_ hSw; (try dsimp only at hSw); go_simp; (first | done | with_reducible rfl | rw [if_neg (by omega)]))
          simp only [Act.put, List.setIfInBounds_toArray, List.set_cons_zero, List.set_cons_succ]
          refine takeY (oi := { dst := some 18, op := Op.fieldAddr 117 (Operand.tmp 4) 1, type := 0, pos := "props.go:18", after := #[{ on := 5, ground := Ground.guard }], guard := some (5, false) }) 6 (some 18) (v := ?v6_4) rfl rfl (by kernel_rfl) (by kernel_rfl) (by kernel_rfl) (fun _ _ _ h => h) (by kernel_rfl) ?hy4 hH2 ?_
          case hy4 => (intro w_ hSw; (try dsimp only at hSw); go_simp; (first | done | with_reducible rfl | rw [if_neg (by omega)]))
          simp only [Act.put, List.setIfInBounds_toArray, List.set_cons_zero, List.set_cons_succ]
          refine takeY (oi := { dst := some 19, op := Op.load 42 (Operand.tmp 18), type := 42, pos := "props.go:18", after := #[{ on := 6, ground := Ground.data }, { on := 5, ground := Ground.guard }], guard := some (5, false) }) 7 (some 19) (v := ?v7_4) rfl rfl (by kernel_rfl) (by kernel_rfl) (by kernel_rfl) (fun _ _ _ h => h) (by kernel_rfl) ?hy4 hH2 ?_
          case hy4 => (intro w_ hSw; (try dsimp only at hSw); go_simp; (first | done | with_reducible rfl | rw [if_neg (by omega)]))
          simp only [Act.put, List.setIfInBounds_toArray, List.set_cons_zero, List.set_cons_succ]
          refine wpAnyH_ready (rs := [8]) (by kernel_rfl) (by simp) ?_
          refine AllReadyH.cons (o := { dst := some 20, op := Op.buildSlice 188 1 #[(0, Operand.tmp 19)], type := 188, pos := "props.go:18", after := #[{ on := 7, ground := Ground.data }, { on := 5, ground := Ground.guard }], guard := some (5, false) }) rfl (fun K3 hK3 => ?_) AllReadyH.nil
          go_simp
          refine hK3.out _ _ ?hS4 (fun hH3 => ?_)
          case hS4 => ((try dsimp only); (first | exact keepB8 (by assumption) (by assumption) | exact keepB8 (below_al _ _) (by assumption)))
          clear hK3 K3
          (try clear hH2)
          (try simp only [Act.put, List.setIfInBounds_toArray, List.set_cons_zero, List.set_cons_succ])
          refine wpAnyH_ready (rs := [9]) (by kernel_rfl) (by simp) ?_
          refine AllReadyH.cons (o := { dst := some 21, op := Op.call { callee := Callee.value (Operand.func 116), args := #[Operand.tmp 20], argTypes := #[188] }, type := 4, pos := "props.go:18", after := #[{ on := 8, ground := Ground.data }, { on := 5, ground := Ground.chain }, { on := 5, ground := Ground.guard }], guard := some (5, false) }) rfl (fun K4 hK4 => ?_) AllReadyH.nil
          go_simp; refine (value_Right_one _ 1 ⟨y1, y2, y3⟩ _ ?hC4 true hV).mono ?_; (case hC4 => exact C_boxg kValue (by decide) _ _ (by simp) ⟨y1, y2, y3⟩ #[.int .i64 y1, .int .i64 y2, .string y3] _ (kValue_mk _ _)); rintro e w3 ⟨rfl, hb3⟩
          refine hK4.out _ _ ?hS4 (fun hH4 => ?_)
          case hS4 => ((try dsimp only); (first | exact keepB8 (by assumption) (by assumption) | exact keepB8 (below_al _ _) (by assumption)))
          clear hK4 K4
          (try clear hH3)
          (try simp only [Act.put, List.setIfInBounds_toArray, List.set_cons_zero, List.set_cons_succ])
          refine takeY (oi := { dst := some 22, op := Op.unOp UnOp.not 4 (Operand.tmp 21), type := 4, pos := "props.go:18", after := #[{ on := 9, ground := Ground.data }, { on := 5, ground := Ground.guard }], guard := some (5, false) }) 10 (some 22) (v := ?v10_4) rfl rfl (by kernel_rfl) (by kernel_rfl) (by kernel_rfl) (fun _ _ _ h => h) (by kernel_rfl) ?hy4 hH4 ?_
          case hy4 => (intro w_ hSw; (try dsimp only at hSw); go_simp; (first | done | with_reducible rfl | rw [if_neg (by omega)]))
          simp only [Act.put, List.setIfInBounds_toArray, List.set_cons_zero, List.set_cons_succ]
          refine takeY (oi := { dst := some 23, op := Op.pick (Operand.tmp 17) (Operand.const (Value.bool true)) (Operand.tmp 22), type := 4, pos := "props.go:18", after := #[{ on := 5, ground := Ground.data }, { on := 10, ground := Ground.data }], guard := none }) 11 (some 23) (v := ?v11_4) rfl rfl (by kernel_rfl) (by kernel_rfl) (by kernel_rfl) (fun _ _ _ h => h) (by kernel_rfl) ?hy4 hH4 ?_
          case hy4 => (intro w_ hSw; (try dsimp only at hSw); go_simp; (first | done | with_reducible rfl | rw [if_neg (by omega)]))
          simp only [Act.put, List.setIfInBounds_toArray, List.set_cons_zero, List.set_cons_succ]
          refine takeY (oi := { dst := some 24, op := Op.move (Operand.tmp 23), type := 4, pos := "props.go:18", after := #[{ on := 11, ground := Ground.data }, { on := 9, ground := Ground.chain }], guard := none }) 12 (some 24) (v := ?v12_4) rfl rfl (by kernel_rfl) (by kernel_rfl) (by kernel_rfl) (fun _ _ _ h => h) (by kernel_rfl) ?hy4 hH4 ?_
          case hy4 => (intro w_ hSw; (try dsimp only at hSw); go_simp; (first | done | with_reducible rfl | rw [if_neg (by omega)]))
          simp only [Act.put, List.setIfInBounds_toArray, List.set_cons_zero, List.set_cons_succ]
          refine takeY (oi := { dst := some 25, op := Op.move (Operand.tmp 3), type := 3, pos := "props.go:18", after := #[{ on := 12, ground := Ground.guard }], guard := some (12, false) }) 13 (some 25) (v := ?v13_4) rfl rfl (by kernel_rfl) (by kernel_rfl) (by kernel_rfl) (fun _ _ _ h => h) (by kernel_rfl) ?hy4 hH4 ?_
          case hy4 => (intro w_ hSw; (try dsimp only at hSw); go_simp; (first | done | with_reducible rfl | rw [if_neg (by omega)]))
          simp only [Act.put, List.setIfInBounds_toArray, List.set_cons_zero, List.set_cons_succ]
          refine takeY (oi := { dst := some 26, op := Op.binOp BinOp.gtr 3 (Operand.tmp 25) (Operand.const (Value.int IntKind.i64 0)) 3, type := 4, pos := "props.go:18", after := #[{ on := 13, ground := Ground.data }, { on := 12, ground := Ground.guard }], guard := some (12, false) }) 14 (some 26) (v := ?v14_4) rfl rfl (by kernel_rfl) (by kernel_rfl) (by kernel_rfl) (fun _ _ _ h => h) (by kernel_rfl) ?hy4 hH4 ?_
          case hy4 => (intro w_ hSw; (try dsimp only at hSw); go_simp; (first | done | with_reducible rfl | rw [if_neg (by omega)]))
          simp only [Act.put, List.setIfInBounds_toArray, List.set_cons_zero, List.set_cons_succ]
          refine takeY (oi := { dst := some 27, op := Op.move (Operand.tmp 26), type := 4, pos := "props.go:18", after := #[{ on := 14, ground := Ground.data }, { on := 12, ground := Ground.chain }, { on := 12, ground := Ground.guard }], guard := some (12, false) }) 15 (some 27) (v := ?v15_4) rfl rfl (by kernel_rfl) (by kernel_rfl) (by kernel_rfl) (fun _ _ _ h => h) (by kernel_rfl) ?hy4 hH4 ?_
          case hy4 => (intro w_ hSw; (try dsimp only at hSw); go_simp; (first | done | with_reducible rfl | rw [if_neg (by omega)]))
          simp only [Act.put, List.setIfInBounds_toArray, List.set_cons_zero, List.set_cons_succ]
          refine takeY (oi := { dst := some 28, op := Op.move (Operand.tmp 0), type := 22, pos := "props.go:18", after := #[{ on := 15, ground := Ground.guard }], guard := some (15, true) }) 16 (some 28) (v := ?v16_4) rfl rfl (by kernel_rfl) (by kernel_rfl) (by kernel_rfl) (fun _ _ _ h => h) (by kernel_rfl) ?hy4 hH4 ?_
          case hy4 => (intro w_ hSw; (try dsimp only at hSw); go_simp; (first | done | with_reducible rfl | rw [if_neg (by omega)]))
          simp only [Act.put, List.setIfInBounds_toArray, List.set_cons_zero, List.set_cons_succ]
          refine takeY (oi := { dst := some 29, op := Op.move (Operand.tmp 3), type := 3, pos := "props.go:18", after := #[{ on := 15, ground := Ground.guard }], guard := some (15, true) }) 17 (some 29) (v := ?v17_4) rfl rfl (by kernel_rfl) (by kernel_rfl) (by kernel_rfl) (fun _ _ _ h => h) (by kernel_rfl) ?hy4 hH4 ?_
          case hy4 => (intro w_ hSw; (try dsimp only at hSw); go_simp; (first | done | with_reducible rfl | rw [if_neg (by omega)]))
          simp only [Act.put, List.setIfInBounds_toArray, List.set_cons_zero, List.set_cons_succ]
          refine takeY (oi := { dst := some 30, op := Op.binOp BinOp.sub 3 (Operand.tmp 29) (Operand.const (Value.int IntKind.i64 1)) 3, type := 3, pos := "props.go:18", after := #[{ on := 17, ground := Ground.data }, { on := 15, ground := Ground.guard }], guard := some (15, true) }) 18 (some 30) (v := ?v18_4) rfl rfl (by kernel_rfl) (by kernel_rfl) (by kernel_rfl) (fun _ _ _ h => h) (by kernel_rfl) ?hy4 hH4 ?_
          case hy4 => (intro w_ hSw; (try dsimp only at hSw); go_simp; (first | done | with_reducible rfl | rw [if_neg (by omega)]))
          simp only [Act.put, List.setIfInBounds_toArray, List.set_cons_zero, List.set_cons_succ]
          refine takeY (oi := { dst := some 31, op := Op.indexAddr 22 (Operand.tmp 28) (Operand.tmp 30), type := 0, pos := "props.go:18", after := #[{ on := 16, ground := Ground.data }, { on := 18, ground := Ground.data }, { on := 15, ground := Ground.guard }], guard := some (15, true) }) 19 (some 31) (v := ?v19_4) rfl rfl (by kernel_rfl) (by kernel_rfl) (by kernel_rfl) (fun _ _ _ h => h) (by kernel_rfl) ?hy4 hH4 ?_
          case hy4 => (intro w_ hSw; (try dsimp only at hSw); go_simp; (first | done | with_reducible rfl | rw [if_neg (by omega)]))
          simp only [Act.put, List.setIfInBounds_toArray, List.set_cons_zero, List.set_cons_succ]
          refine takeY (oi := { dst := some 32, op := Op.load 117 (Operand.tmp 31), type := 117, pos := "props.go:18", after := #[{ on := 19, ground := Ground.data }, { on := 15, ground := Ground.guard }], guard := some (15, true) }) 20 (some 32) (v := ?v20_4) rfl rfl (by kernel_rfl) (by kernel_rfl) (by kernel_rfl) (fun _ _ _ h => h) (by kernel_rfl) ?hy4 hH4 ?_
          case hy4 => (intro w_ hSw; (try dsimp only at hSw); go_simp; (first | done | with_reducible rfl | rw [if_neg (by omega)]))
          simp only [Act.put, List.setIfInBounds_toArray, List.set_cons_zero, List.set_cons_succ]
          refine takeY (oi := { dst := some 33, op := Op.fieldAddr 117 (Operand.tmp 4) 0, type := 0, pos := "props.go:18", after := #[{ on := 15, ground := Ground.guard }], guard := some (15, true) }) 21 (some 33) (v := ?v21_4) rfl rfl (by kernel_rfl) (by kernel_rfl) (by kernel_rfl) (fun _ _ _ h => h) (by kernel_rfl) ?hy4 hH4 ?_
          case hy4 => (intro w_ hSw; (try dsimp only at hSw); go_simp; (first | done | with_reducible rfl | rw [if_neg (by omega)]))
          simp only [Act.put, List.setIfInBounds_toArray, List.set_cons_zero, List.set_cons_succ]
          refine takeY (oi := { dst := some 34, op := Op.load 9 (Operand.tmp 33), type := 9, pos := "props.go:18", after := #[{ on := 21, ground := Ground.data }, { on := 15, ground := Ground.guard }], guard := some (15, true) }) 22 (some 34) (v := ?v22_4) rfl rfl (by kernel_rfl) (by kernel_rfl) (by kernel_rfl) (fun _ _ _ h => h) (by kernel_rfl) ?hy4 hH4 ?_
          case hy4 => (intro w_ hSw; (try dsimp only at hSw); go_simp; (first | done | with_reducible rfl | rw [if_neg (by omega)]))
          simp only [Act.put, List.setIfInBounds_toArray, List.set_cons_zero, List.set_cons_succ]
          refine wpAnyH_ready (rs := [23]) (by kernel_rfl) (by simp) ?_
          refine AllReadyH.cons (o := { dst := some 35, op := Op.call { callee := Callee.value (Operand.func 117), args := #[Operand.tmp 32, Operand.tmp 34], argTypes := #[117, 9] }, type := 3, pos := "props.go:18", after := #[{ on := 20, ground := Ground.data }, { on := 22, ground := Ground.data }, { on := 15, ground := Ground.chain }, { on := 15, ground := Ground.guard }], guard := some (15, true) }) rfl (fun K5 hK5 => ?_) AllReadyH.nil
          go_simp; refine (props_by_calls _ _ _ _ _ _ (by omega) (by omega)).mono ?_; rintro e w4 ⟨rfl, hb4⟩
          refine hK5.out _ _ ?hS4 (fun hH5 => ?_)
          case hS4 => ((try dsimp only); (first | exact keepB8 (by assumption) (by assumption) | exact keepB8 (below_al _ _) (by assumption)))
          clear hK5 K5
          (try clear hH4)
          (try simp only [Act.put, List.setIfInBounds_toArray, List.set_cons_zero, List.set_cons_succ])
          refine takeY (oi := { dst := some 36, op := Op.binOp BinOp.geq 3 (Operand.tmp 35) (Operand.const (Value.int IntKind.i64 0)) 3, type := 4, pos := "props.go:18", after := #[{ on := 23, ground := Ground.data }, { on := 15, ground := Ground.guard }], guard := some (15, true) }) 24 (some 36) (v := ?v24_4) rfl rfl (by kernel_rfl) (by kernel_rfl) (by kernel_rfl) (fun _ _ _ h => h) (by kernel_rfl) ?hy4 hH5 ?_
          case hy4 => (intro w_ hSw; (try dsimp only at hSw); go_simp; (first | done | with_reducible rfl | rw [if_neg (by omega)]))
          simp only [Act.put, List.setIfInBounds_toArray, List.set_cons_zero, List.set_cons_succ]
          refine takeY (oi := { dst := some 37, op := Op.pick (Operand.tmp 27) (Operand.tmp 36) (Operand.const (Value.bool false)), type := 4, pos := "props.go:18", after := #[{ on := 15, ground := Ground.data }, { on := 24, ground := Ground.data }, { on := 12, ground := Ground.guard }], guard := some (12, false) }) 25 (some 37) (v := ?v25_4) rfl rfl (by kernel_rfl) (by kernel_rfl) (by kernel_rfl) (fun _ _ _ h => h) (by kernel_rfl) ?hy4 hH5 ?_
          case hy4 => (intro w_ hSw; (try dsimp only at hSw); go_simp; (first | done | with_reducible rfl | rw [if_neg (by omega)]))
          simp only [Act.put, List.setIfInBounds_toArray, List.set_cons_zero, List.set_cons_succ]
          refine takeY (oi := { dst := some 38, op := Op.pick (Operand.tmp 24) (Operand.const (Value.bool true)) (Operand.tmp 37), type := 4, pos := "props.go:18", after := #[{ on := 12, ground := Ground.data }, { on := 25, ground := Ground.data }], guard := none }) 26 (some 38) (v := ?v26_4) rfl rfl (by kernel_rfl) (by kernel_rfl) (by kernel_rfl) (fun _ _ _ h => h) (by kernel_rfl) ?hy4 hH5 ?_
          case hy4 => (intro w_ hSw; (try dsimp only at hSw); go_simp; (first | done | with_reducible rfl | rw [if_neg (by omega)]))
          simp only [Act.put, List.setIfInBounds_toArray, List.set_cons_zero, List.set_cons_succ]
          refine wpAnyH_done (by kernel_rfl) ?_ _
          have hEnd := hH5
          clear hH5
          have HB2 := Lib.hid (hEnd.2.2.2.2.2.2.2.2)
          go_wp2
          go_roundw
          case rel => exact ⟨m + 1 + 1, by omega, by go_num, HB2, Lib.hid (by rw [← HS2.out]; exact HI.out)⟩
          case measure => simp [intOf]; omega
        · have HE := Lib.hid (propsRight_no (by rw [← HI.out, HS.out, hN, hV, HP.out]; simp [hC]))
          go_wp2_with fail
          refine wp_region_held_drew (S := (fun w' => w'.cell? ⟨wr.heap.size, 0, none⟩ = some (.string y0) ∧ w'.cell? ⟨wr.heap.size, 1, none⟩ = some (.int .i64 y1) ∧ w'.cell? ⟨wr.heap.size, 2, none⟩ = some (.int .i64 y2) ∧ w'.cell? ⟨wr.heap.size, 3, none⟩ = some (.string y3) ∧ w'.cell? (ad.add (m * 4)) = some (.string x0) ∧ w'.cell? ⟨(ad.add (m * 4)).block, (ad.add (m * 4)).off + 1, none⟩ = some (.int .i64 x1) ∧ w'.cell? ⟨(ad.add (m * 4)).block, (ad.add (m * 4)).off + 2, none⟩ = some (.int .i64 x2) ∧ w'.cell? ⟨(ad.add (m * 4)).block, (ad.add (m * 4)).off + 3, none⟩ = some (.string x3) ∧ Below w.heap.size w w')) (by kernel_rfl) ?hS5 (fun hH0 => ?_)
          case hS5 => refine ⟨by go_keep, by go_keep, by go_keep, by go_keep, by go_keep, by go_keep, by go_keep, by go_keep, below_drew (HB.out.alloc HB.out.size _)⟩
          refine takeY (oi := { dst := some 12, op := Op.fieldAddr 117 (Operand.tmp 4) 0, type := 0, pos := "props.go:18", after := #[], guard := none }) 0 (some 12) (v := ?v0_5) rfl rfl (by kernel_rfl) (by kernel_rfl) (by kernel_rfl) (fun _ _ _ h => h) (by kernel_rfl) ?hy5 hH0 ?_
          case hy5 => (intro w_ hSw; (try dsimp only at hSw); go_simp; (first | done | with_reducible rfl | rw [if_neg (by omega)]))
          simp only [Act.put, List.setIfInBounds_toArray, List.set_cons_zero, List.set_cons_succ]
          refine takeY (oi := { dst := some 13, op := Op.load 9 (Operand.tmp 12), type := 9, pos := "props.go:18", after := #[{ on := 0, ground := Ground.data }], guard := none }) 1 (some 13) (v := ?v1_5) rfl rfl (by kernel_rfl) (by kernel_rfl) (by kernel_rfl) (fun _ _ _ h => h) (by kernel_rfl) ?hy5 hH0 ?_
          case hy5 => (intro w_ hSw; (try dsimp only at hSw); go_simp; (first | done | with_reducible rfl | rw [if_neg (by omega)]))
          simp only [Act.put, List.setIfInBounds_toArray, List.set_cons_zero, List.set_cons_succ]
          refine wpAnyH_ready (rs := [2]) (by kernel_rfl) (by simp) ?_
          refine AllReadyH.cons (o := { dst := some 14, op := Op.buildSlice 174 1 #[(0, Operand.tmp 13)], type := 174, pos := "props.go:18", after := #[{ on := 1, ground := Ground.data }], guard := none }) rfl (fun K1 hK1 => ?_) AllReadyH.nil
          go_simp
          refine hK1.out _ _ ?hS5 (fun hH1 => ?_)
          case hS5 => ((try dsimp only); (first | exact keepB8 (by assumption) (by assumption) | exact keepB8 (below_al _ _) (by assumption)))
          clear hK1 K1
          (try clear hH0)
          (try simp only [Act.put, List.setIfInBounds_toArray, List.set_cons_zero, List.set_cons_succ])
          refine wpAnyH_ready (rs := [3]) (by kernel_rfl) (by simp) ?_
          refine AllReadyH.cons (o := { dst := some 15, op := Op.call { callee := Callee.value (Operand.func 85), args := #[Operand.tmp 14], argTypes := #[174] }, type := 4, pos := "props.go:18", after := #[{ on := 2, ground := Ground.data }], guard := none }) rfl (fun K2 hK2 => ?_) AllReadyH.nil
          go_simp; refine (letter_Right_one _ 1 y0 _ ?hC5 ?hs5 true hN).mono ?_; (case hC5 => exact C_boxd Kd.string (by decide) _ _ (by simp) y0 #[.string y0] _ rfl); (case hs5 => omega); rintro e w2 ⟨rfl, hb2⟩
          refine hK2.out _ _ ?hS5 (fun hH2 => ?_)
          case hS5 => ((try dsimp only); (first | exact keepB8 (by assumption) (by assumption) | exact keepB8 (below_al _ _) (by assumption)))
          clear hK2 K2
          (try clear hH1)
          (try simp only [Act.put, List.setIfInBounds_toArray, List.set_cons_zero, List.set_cons_succ])
          refine takeY (oi := { dst := some 16, op := Op.unOp UnOp.not 4 (Operand.tmp 15), type := 4, pos := "props.go:18", after := #[{ on := 3, ground := Ground.data }], guard := none }) 4 (some 16) (v := ?v4_5) rfl rfl (by kernel_rfl) (by kernel_rfl) (by kernel_rfl) (fun _ _ _ h => h) (by kernel_rfl) ?hy5 hH2 ?_
          case hy5 => (intro w_ hSw; (try dsimp only at hSw); go_simp; (first | done | with_reducible rfl | rw [if_neg (by omega)]))
          simp only [Act.put, List.setIfInBounds_toArray, List.set_cons_zero, List.set_cons_succ]
          refine takeY (oi := { dst := some 17, op := Op.move (Operand.tmp 16), type := 4, pos := "props.go:18", after := #[{ on := 4, ground := Ground.data }, { on := 3, ground := Ground.chain }], guard := none }) 5 (some 17) (v := ?v5_5) rfl rfl (by kernel_rfl) (by kernel_rfl) (by kernel_rfl) (fun _ _ _ h => h) (by kernel_rfl) ?hy5 hH2 ?_
          case hy5 => (intro w_ hSw; (try dsimp only at hSw); go_simp; (first | done | with_reducible rfl | rw [if_neg (by omega)]))
          simp only [Act.put, List.setIfInBounds_toArray, List.set_cons_zero, List.set_cons_succ]
          refine takeY (oi := { dst := some 18, op := Op.fieldAddr 117 (Operand.tmp 4) 1, type := 0, pos := "props.go:18", after := #[{ on := 5, ground := Ground.guard }], guard := some (5, false) }) 6 (some 18) (v := ?v6_5) rfl rfl (by kernel_rfl) (by kernel_rfl) (by kernel_rfl) (fun _ _ _ h => h) (by kernel_rfl) ?hy5 hH2 ?_
          case hy5 => (intro w_ hSw; (try dsimp only at hSw); go_simp; (first | done | with_reducible rfl | rw [if_neg (by omega)]))
          simp only [Act.put, List.setIfInBounds_toArray, List.set_cons_zero, List.set_cons_succ]
          refine takeY (oi := { dst := some 19, op := Op.load 42 (Operand.tmp 18), type := 42, pos := "props.go:18", after := #[{ on := 6, ground := Ground.data }, { on := 5, ground := Ground.guard }], guard := some (5, false) }) 7 (some 19) (v := ?v7_5) rfl rfl (by kernel_rfl) (by kernel_rfl) (by kernel_rfl) (fun _ _ _ h => h) (by kernel_rfl) ?hy5 hH2 ?_
          case hy5 => (intro w_ hSw; (try dsimp only at hSw); go_simp; (first | done | with_reducible rfl | rw [if_neg (by omega)]))
          simp only [Act.put, List.setIfInBounds_toArray, List.set_cons_zero, List.set_cons_succ]
          refine wpAnyH_ready (rs := [8]) (by kernel_rfl) (by simp) ?_
          refine AllReadyH.cons (o := { dst := some 20, op := Op.buildSlice 188 1 #[(0, Operand.tmp 19)], type := 188, pos := "props.go:18", after := #[{ on := 7, ground := Ground.data }, { on := 5, ground := Ground.guard }], guard := some (5, false) }) rfl (fun K3 hK3 => ?_) AllReadyH.nil
          go_simp
          refine hK3.out _ _ ?hS5 (fun hH3 => ?_)
          case hS5 => ((try dsimp only); (first | exact keepB8 (by assumption) (by assumption) | exact keepB8 (below_al _ _) (by assumption)))
          clear hK3 K3
          (try clear hH2)
          (try simp only [Act.put, List.setIfInBounds_toArray, List.set_cons_zero, List.set_cons_succ])
          refine wpAnyH_ready (rs := [9]) (by kernel_rfl) (by simp) ?_
          refine AllReadyH.cons (o := { dst := some 21, op := Op.call { callee := Callee.value (Operand.func 116), args := #[Operand.tmp 20], argTypes := #[188] }, type := 4, pos := "props.go:18", after := #[{ on := 8, ground := Ground.data }, { on := 5, ground := Ground.chain }, { on := 5, ground := Ground.guard }], guard := some (5, false) }) rfl (fun K4 hK4 => ?_) AllReadyH.nil
          go_simp; refine (value_Right_one _ 1 ⟨y1, y2, y3⟩ _ ?hC5 true hV).mono ?_; (case hC5 => exact C_boxg kValue (by decide) _ _ (by simp) ⟨y1, y2, y3⟩ #[.int .i64 y1, .int .i64 y2, .string y3] _ (kValue_mk _ _)); rintro e w3 ⟨rfl, hb3⟩
          refine hK4.out _ _ ?hS5 (fun hH4 => ?_)
          case hS5 => ((try dsimp only); (first | exact keepB8 (by assumption) (by assumption) | exact keepB8 (below_al _ _) (by assumption)))
          clear hK4 K4
          (try clear hH3)
          (try simp only [Act.put, List.setIfInBounds_toArray, List.set_cons_zero, List.set_cons_succ])
          refine takeY (oi := { dst := some 22, op := Op.unOp UnOp.not 4 (Operand.tmp 21), type := 4, pos := "props.go:18", after := #[{ on := 9, ground := Ground.data }, { on := 5, ground := Ground.guard }], guard := some (5, false) }) 10 (some 22) (v := ?v10_5) rfl rfl (by kernel_rfl) (by kernel_rfl) (by kernel_rfl) (fun _ _ _ h => h) (by kernel_rfl) ?hy5 hH4 ?_
          case hy5 => (intro w_ hSw; (try dsimp only at hSw); go_simp; (first | done | with_reducible rfl | rw [if_neg (by omega)]))
          simp only [Act.put, List.setIfInBounds_toArray, List.set_cons_zero, List.set_cons_succ]
          refine takeY (oi := { dst := some 23, op := Op.pick (Operand.tmp 17) (Operand.const (Value.bool true)) (Operand.tmp 22), type := 4, pos := "props.go:18", after := #[{ on := 5, ground := Ground.data }, { on := 10, ground := Ground.data }], guard := none }) 11 (some 23) (v := ?v11_5) rfl rfl (by kernel_rfl) (by kernel_rfl) (by kernel_rfl) (fun _ _ _ h => h) (by kernel_rfl) ?hy5 hH4 ?_
          case hy5 => (intro w_ hSw; (try dsimp only at hSw); go_simp; (first | done | with_reducible rfl | rw [if_neg (by omega)]))
          simp only [Act.put, List.setIfInBounds_toArray, List.set_cons_zero, List.set_cons_succ]
          refine takeY (oi := { dst := some 24, op := Op.move (Operand.tmp 23), type := 4, pos := "props.go:18", after := #[{ on := 11, ground := Ground.data }, { on := 9, ground := Ground.chain }], guard := none }) 12 (some 24) (v := ?v12_5) rfl rfl (by kernel_rfl) (by kernel_rfl) (by kernel_rfl) (fun _ _ _ h => h) (by kernel_rfl) ?hy5 hH4 ?_
          case hy5 => (intro w_ hSw; (try dsimp only at hSw); go_simp; (first | done | with_reducible rfl | rw [if_neg (by omega)]))
          simp only [Act.put, List.setIfInBounds_toArray, List.set_cons_zero, List.set_cons_succ]
          refine takeY (oi := { dst := some 25, op := Op.move (Operand.tmp 3), type := 3, pos := "props.go:18", after := #[{ on := 12, ground := Ground.guard }], guard := some (12, false) }) 13 (some 25) (v := ?v13_5) rfl rfl (by kernel_rfl) (by kernel_rfl) (by kernel_rfl) (fun _ _ _ h => h) (by kernel_rfl) ?hy5 hH4 ?_
          case hy5 => (intro w_ hSw; (try dsimp only at hSw); go_simp; (first | done | with_reducible rfl | rw [if_neg (by omega)]))
          simp only [Act.put, List.setIfInBounds_toArray, List.set_cons_zero, List.set_cons_succ]
          refine takeY (oi := { dst := some 26, op := Op.binOp BinOp.gtr 3 (Operand.tmp 25) (Operand.const (Value.int IntKind.i64 0)) 3, type := 4, pos := "props.go:18", after := #[{ on := 13, ground := Ground.data }, { on := 12, ground := Ground.guard }], guard := some (12, false) }) 14 (some 26) (v := ?v14_5) rfl rfl (by kernel_rfl) (by kernel_rfl) (by kernel_rfl) (fun _ _ _ h => h) (by kernel_rfl) ?hy5 hH4 ?_
          case hy5 => (intro w_ hSw; (try dsimp only at hSw); go_simp; (first | done | with_reducible rfl | rw [if_neg (by omega)]))
          simp only [Act.put, List.setIfInBounds_toArray, List.set_cons_zero, List.set_cons_succ]
          refine takeY (oi := { dst := some 27, op := Op.move (Operand.tmp 26), type := 4, pos := "props.go:18", after := #[{ on := 14, ground := Ground.data }, { on := 12, ground := Ground.chain }, { on := 12, ground := Ground.guard }], guard := some (12, false) }) 15 (some 27) (v := ?v15_5) rfl rfl (by kernel_rfl) (by kernel_rfl) (by kernel_rfl) (fun _ _ _ h => h) (by kernel_rfl) ?hy5 hH4 ?_
          case hy5 => (intro w_ hSw; (try dsimp only at hSw); go_simp; (first | done | with_reducible rfl | rw [if_neg (by omega)]))
          simp only [Act.put, List.setIfInBounds_toArray, List.set_cons_zero, List.set_cons_succ]
          refine takeY (oi := { dst := some 28, op := Op.move (Operand.tmp 0), type := 22, pos := "props.go:18", after := #[{ on := 15, ground := Ground.guard }], guard := some (15, true) }) 16 (some 28) (v := ?v16_5) rfl rfl (by kernel_rfl) (by kernel_rfl) (by kernel_rfl) (fun _ _ _ h => h) (by kernel_rfl) ?hy5 hH4 ?_
          case hy5 => (intro w_ hSw; (try dsimp only at hSw); go_simp; (first | done | with_reducible rfl | rw [if_neg (by omega)]))
          simp only [Act.put, List.setIfInBounds_toArray, List.set_cons_zero, List.set_cons_succ]
          refine takeY (oi := { dst := some 29, op := Op.move (Operand.tmp 3), type := 3, pos := "props.go:18", after := #[{ on := 15, ground := Ground.guard }], guard := some (15, true) }) 17 (some 29) (v := ?v17_5) rfl rfl (by kernel_rfl) (by kernel_rfl) (by kernel_rfl) (fun _ _ _ h => h) (by kernel_rfl) ?hy5 hH4 ?_
          case hy5 => (intro w_ hSw; (try dsimp only at hSw); go_simp; (first | done | with_reducible rfl | rw [if_neg (by omega)]))
          simp only [Act.put, List.setIfInBounds_toArray, List.set_cons_zero, List.set_cons_succ]
          refine takeY (oi := { dst := some 30, op := Op.binOp BinOp.sub 3 (Operand.tmp 29) (Operand.const (Value.int IntKind.i64 1)) 3, type := 3, pos := "props.go:18", after := #[{ on := 17, ground := Ground.data }, { on := 15, ground := Ground.guard }], guard := some (15, true) }) 18 (some 30) (v := ?v18_5) rfl rfl (by kernel_rfl) (by kernel_rfl) (by kernel_rfl) (fun _ _ _ h => h) (by kernel_rfl) ?hy5 hH4 ?_
          case hy5 => (intro w_ hSw; (try dsimp only at hSw); go_simp; (first | done | with_reducible rfl | rw [if_neg (by omega)]))
          simp only [Act.put, List.setIfInBounds_toArray, List.set_cons_zero, List.set_cons_succ]
          refine takeY (oi := { dst := some 31, op := Op.indexAddr 22 (Operand.tmp 28) (Operand.tmp 30), type := 0, pos := "props.go:18", after := #[{ on := 16, ground := Ground.data }, { on := 18, ground := Ground.data }, { on := 15, ground := Ground.guard }], guard := some (15, true) }) 19 (some 31) (v := ?v19_5) rfl rfl (by kernel_rfl) (by kernel_rfl) (by kernel_rfl) (fun _ _ _ h => h) (by kernel_rfl) ?hy5 hH4 ?_
          case hy5 => (intro w_ hSw; (try dsimp only at hSw); go_simp; (first | done | with_reducible rfl | rw [if_neg (by omega)]))
          simp only [Act.put, List.setIfInBounds_toArray, List.set_cons_zero, List.set_cons_succ]
          refine takeY (oi := { dst := some 32, op := Op.load 117 (Operand.tmp 31), type := 117, pos := "props.go:18", after := #[{ on := 19, ground := Ground.data }, { on := 15, ground := Ground.guard }], guard := some (15, true) }) 20 (some 32) (v := ?v20_5) rfl rfl (by kernel_rfl) (by kernel_rfl) (by kernel_rfl) (fun _ _ _ h => h) (by kernel_rfl) ?hy5 hH4 ?_
          case hy5 => (intro w_ hSw; (try dsimp only at hSw); go_simp; (first | done | with_reducible rfl | rw [if_neg (by omega)]))
          simp only [Act.put, List.setIfInBounds_toArray, List.set_cons_zero, List.set_cons_succ]
          refine takeY (oi := { dst := some 33, op := Op.fieldAddr 117 (Operand.tmp 4) 0, type := 0, pos := "props.go:18", after := #[{ on := 15, ground := Ground.guard }], guard := some (15, true) }) 21 (some 33) (v := ?v21_5) rfl rfl (by kernel_rfl) (by kernel_rfl) (by kernel_rfl) (fun _ _ _ h => h) (by kernel_rfl) ?hy5 hH4 ?_
          case hy5 => (intro w_ hSw; (try dsimp only at hSw); go_simp; (first | done | with_reducible rfl | rw [if_neg (by omega)]))
          simp only [Act.put, List.setIfInBounds_toArray, List.set_cons_zero, List.set_cons_succ]
          refine takeY (oi := { dst := some 34, op := Op.load 9 (Operand.tmp 33), type := 9, pos := "props.go:18", after := #[{ on := 21, ground := Ground.data }, { on := 15, ground := Ground.guard }], guard := some (15, true) }) 22 (some 34) (v := ?v22_5) rfl rfl (by kernel_rfl) (by kernel_rfl) (by kernel_rfl) (fun _ _ _ h => h) (by kernel_rfl) ?hy5 hH4 ?_
          case hy5 => (intro w_ hSw; (try dsimp only at hSw); go_simp; (first | done | with_reducible rfl | rw [if_neg (by omega)]))
          simp only [Act.put, List.setIfInBounds_toArray, List.set_cons_zero, List.set_cons_succ]
          refine wpAnyH_ready (rs := [23]) (by kernel_rfl) (by simp) ?_
          refine AllReadyH.cons (o := { dst := some 35, op := Op.call { callee := Callee.value (Operand.func 117), args := #[Operand.tmp 32, Operand.tmp 34], argTypes := #[117, 9] }, type := 3, pos := "props.go:18", after := #[{ on := 20, ground := Ground.data }, { on := 22, ground := Ground.data }, { on := 15, ground := Ground.chain }, { on := 15, ground := Ground.guard }], guard := some (15, true) }) rfl (fun K5 hK5 => ?_) AllReadyH.nil
          go_simp; refine (props_by_calls _ _ _ _ _ _ (by omega) (by omega)).mono ?_; rintro e w4 ⟨rfl, hb4⟩
          refine hK5.out _ _ ?hS5 (fun hH5 => ?_)
          case hS5 => ((try dsimp only); (first | exact keepB8 (by assumption) (by assumption) | exact keepB8 (below_al _ _) (by assumption)))
          clear hK5 K5
          (try clear hH4)
          (try simp only [Act.put, List.setIfInBounds_toArray, List.set_cons_zero, List.set_cons_succ])
          refine takeY (oi := { dst := some 36, op := Op.binOp BinOp.geq 3 (Operand.tmp 35) (Operand.const (Value.int IntKind.i64 0)) 3, type := 4, pos := "props.go:18", after := #[{ on := 23, ground := Ground.data }, { on := 15, ground := Ground.guard }], guard := some (15, true) }) 24 (some 36) (v := ?v24_5) rfl rfl (by kernel_rfl) (by kernel_rfl) (by kernel_rfl) (fun _ _ _ h => h) (by kernel_rfl) ?hy5 hH5 ?_
          case hy5 => (intro w_ hSw; (try dsimp only at hSw); go_simp; (first | done | with_reducible rfl | rw [if_neg (by omega)]))
          simp only [Act.put, List.setIfInBounds_toArray, List.set_cons_zero, List.set_cons_succ]
          refine takeY (oi := { dst := some 37, op := Op.pick (Operand.tmp 27) (Operand.tmp 36) (Operand.const (Value.bool false)), type := 4, pos := "props.go:18", after := #[{ on := 15, ground := Ground.data }, { on := 24, ground := Ground.data }, { on := 12, ground := Ground.guard }], guard := some (12, false) }) 25 (some 37) (v := ?v25_5) rfl rfl (by kernel_rfl) (by kernel_rfl) (by kernel_rfl) (fun _ _ _ h => h) (by kernel_rfl) ?hy5 hH5 ?_
          case hy5 => (intro w_ hSw; (try dsimp only at hSw); go_simp; (first | done | with_reducible rfl | rw [if_neg (by omega)]))
          simp only [Act.put, List.setIfInBounds_toArray, List.set_cons_zero, List.set_cons_succ]
          refine takeY (oi := { dst := some 38, op := Op.pick (Operand.tmp 24) (Operand.const (Value.bool true)) (Operand.tmp 37), type := 4, pos := "props.go:18", after := #[{ on := 12, ground := Ground.data }, { on := 25, ground := Ground.data }], guard := none }) 26 (some 38) (v := ?v26_5) rfl rfl (by kernel_rfl) (by kernel_rfl) (by kernel_rfl) (fun _ _ _ h => h) (by kernel_rfl) ?hy5 hH5 ?_
          case hy5 => (intro w_ hSw; (try dsimp only at hSw); go_simp; (first | done | with_reducible rfl | rw [if_neg (by omega)]))
          simp only [Act.put, List.setIfInBounds_toArray, List.set_cons_zero, List.set_cons_succ]
          refine wpAnyH_done (by kernel_rfl) ?_ _
          have hEnd := hH5
          clear hH5
          have HB2 := Lib.hid (hEnd.2.2.2.2.2.2.2.2)
          go_wp2
          go_ret
          exact ⟨ret_bool HE.out.symm, HB2.out⟩
    · have hlt2 : ¬ (k : Int) < (l.length : Int) := by omega
      go_wp2
      go_ret
      refine ⟨ret_bool ?_, HB.out⟩
      have := HI.out
      rw [List.drop_eq_nil_of_le (by omega)] at this
      unfold propsRight
      rw [← this, propsFrom, Bool.true_and, Bool.eq_iff_iff]
      simp
      omega
end Go.Proofs.Ytonbnlfijmapfaa
