/- Texts of this proof, joined: L7, P5, L8, L9, K3, L10, L11, L12. No condition. -/
import Derived.Test.YtonbnlfijmapfaaJ1
import Derived.Test.YtonbnlfijmapfaaWMore
/- props.by, props.Right, and the reference's; what may be. No condition but on sizes. -/
namespace Go.Proofs.Ytonbnlfijmapfaa
open Go.RowKit Go.Shelf Go.Proofs.YtonbnlfijmapfaaW.PrintWords
set_option linter.unusedVariables false
set_option linter.unusedSimpArgs false

set_option maxHeartbeats 1000000 in
theorem props_by_calls (key : ByteArray) (k n : Int) (s b : ByteArray) (w : World) (ha : key.size ≤ 70368744177664) (hb : b.size ≤ 70368744177664) :
    Calls Try.prog 117 #[.agg #[.string key, .int .i64 k, .int .i64 n, .string s], .string b] w fun e w' => e = .returned (.int .i64 (cmpS key b)) ∧ Below w.heap.size w w' := by
  go_enter Try.func117, Try.ntmps117
  go_wp2_with (go_at_call 134; refine (letter_Compare_calls _ _ _ ha hb).mono ?_; rintro e w' ⟨rfl, hb'⟩)
  go_ret
  exact ⟨rfl, ((Below.refl _ _).alloc (Nat.le_refl _) _).trans (below_down hb' (by simp))⟩

def propsFrom : Option ByteArray → List SPrp → Bool
  | _, [] => true
  | q, p :: t => nameRight p.f0 && p.f1.ok && (match q with | none => true | some q => decide (cmpS q p.f0 < 0)) && propsFrom (some p.f0) t
def propsRight (ps : List SPrp) : Bool := propsFrom none ps && decide (ps.length ≤ 16)
def prevAt (l : List SPrp) (k : Nat) : Option ByteArray := if k = 0 then none else some (l.getD (k - 1) zPrp).f0
def fits (ps : List SPrp) : Prop := ∀ p ∈ ps, p.f0.size ≤ 100000

theorem propsFrom_at (l : List SPrp) (k : Nat) (h : k < l.length) : propsFrom (prevAt l k) (l.drop k) =
    (nameRight (l.getD k zPrp).f0 && (l.getD k zPrp).f1.ok && (match prevAt l k with | none => true | some q => decide (cmpS q (l.getD k zPrp).f0 < 0)) && propsFrom (prevAt l (k + 1)) (l.drop (k + 1))) := by
  rw [drop_cons l k zPrp h]; rfl

theorem propsRight_no {l : List SPrp} (h : propsFrom none l = false) : propsRight l = false := by unfold propsRight; rw [h]; rfl

set_option maxHeartbeats 2000000 in
theorem props_Right_calls (A : Option Addr) (c : Nat) (l : List SPrp) (w : World) (h : kPrp.C w A l.length l) (hf : fits l) :
    Calls Try.prog 86 #[.slice A l.length c] w fun e w' => e = .returned (.bool (propsRight l)) ∧ Below w.heap.size w w' := by
  have hm := Kd.C_max h
  have HX := Lib.hid h; clear h
  have HF := Lib.hid hf; clear hf
  go_enter Try.func86, Try.ntmps86
  go_wp2
  go_loopw [7] (fun s7 wr => ∃ k : Nat, k ≤ l.length ∧ s7 = .int .i64 k ∧ Hid (Below w.heap.size w wr) ∧ Hid (propsFrom (prevAt l k) (l.drop k) = propsFrom none l)) (fun s7 _ => l.length - (intOf s7).toNat)
  case atStart => exact ⟨0, Nat.zero_le _, rfl, Lib.hid (Below.refl _ w), Lib.hid rfl⟩
  case round =>
    obtain ⟨k, hk, rfl, HB, HI⟩ := hrel
    by_cases hlt : k < l.length
    · have hlt2 : (k : Int) < (l.length : Int) := by omega
      have HS := Lib.hid (propsFrom_at l k hlt)
      have hmem : l.getD k zPrp ∈ l := by simp [List.getD_eq_getElem?_getD, List.getElem?_eq_getElem hlt]
      have hs := HF.out _ hmem
      obtain ⟨ad, rfl, g0, g1, g2, g3⟩ := at_Prp (Kd.C_below HX.out HB.out) (k : Int) (by omega) (by omega)
      simp only [Int.toNat_natCast, rd_Prp] at g0 g1 g2 g3
      cases hy : l.getD k zPrp with
      | mk y0 yv =>
      cases yv with
      | mk y1 y2 y3 =>
      rw [hy] at g0 g1 g2 g3 HS hs
      clear hy hmem
      simp only at g0 g1 g2 g3 hs
      cases hN : nameRight y0 with
      | false =>
        go_wp2_with fail
        refine wp_region_held_drew (S := (fun w' => w'.cell? ⟨wr.heap.size, 0, none⟩ = some (.string y0) ∧ w'.cell? ⟨wr.heap.size, 1, none⟩ = some (.int .i64 y1) ∧ w'.cell? ⟨wr.heap.size, 2, none⟩ = some (.int .i64 y2) ∧ w'.cell? ⟨wr.heap.size, 3, none⟩ = some (.string y3) ∧ Below w.heap.size w w')) (by kernel_rfl) ?hS1 (fun hH0 => ?_)
        case hS1 => refine ⟨by go_keep, by go_keep, by go_keep, by go_keep, below_drew (HB.out.alloc HB.out.size _)⟩
        refine takeY (oi := { dst := some 12, op := Op.fieldAddr 117 (Operand.tmp 4) 0, type := 0, pos := "props.go:18", after := #[], guard := none }) 0 (some 12) (v := ?v0_1) rfl rfl (by kernel_rfl) (by kernel_rfl) (by kernel_rfl) (fun _ _ _ h => h) (by kernel_rfl) ?hy1 hH0 ?_
        case hy1 => (intro w_ hSw; (try dsimp only at hSw); go_simp; (first | done | with_reducible rfl | rw [if_neg (by omega)]))
        simp only [Act.put, List.setIfInBounds_toArray, List.set_cons_zero, List.set_cons_succ]
        refine takeY (oi := { dst := some 13, op := Op.load 9 (Operand.tmp 12), type := 9, pos := "props.go:18", after := #[{ on := 0, ground := Ground.data }], guard := none }) 1 (some 13) (v := ?v1_1) rfl rfl (by kernel_rfl) (by kernel_rfl) (by kernel_rfl) (fun _ _ _ h => h) (by kernel_rfl) ?hy1 hH0 ?_
        case hy1 => (intro w_ hSw; (try dsimp only at hSw); go_simp; (first | done | with_reducible rfl | rw [if_neg (by omega)]))
        simp only [Act.put, List.setIfInBounds_toArray, List.set_cons_zero, List.set_cons_succ]
        refine wpAnyH_ready (rs := [2]) (by kernel_rfl) (by simp) ?_
        refine AllReadyH.cons (o := { dst := some 14, op := Op.buildSlice 174 1 #[(0, Operand.tmp 13)], type := 174, pos := "props.go:18", after := #[{ on := 1, ground := Ground.data }], guard := none }) rfl (fun K1 hK1 => ?_) AllReadyH.nil
        go_simp
        refine hK1.out _ _ ?hS1 (fun hH1 => ?_)
        case hS1 => ((try dsimp only); (first | exact keepB4 (by assumption) (by assumption) | exact keepB4 (below_al _ _) (by assumption)))
        clear hK1 K1
        (try clear hH0)
        (try simp only [Act.put, List.setIfInBounds_toArray, List.set_cons_zero, List.set_cons_succ])
        refine wpAnyH_ready (rs := [3]) (by kernel_rfl) (by simp) ?_
        refine AllReadyH.cons (o := { dst := some 15, op := Op.call { callee := Callee.value (Operand.func 85), args := #[Operand.tmp 14], argTypes := #[174] }, type := 4, pos := "props.go:18", after := #[{ on := 2, ground := Ground.data }], guard := none }) rfl (fun K2 hK2 => ?_) AllReadyH.nil
        go_simp; refine (letter_Right_one _ 1 y0 _ ?hC1 ?hs1 false hN).mono ?_; (case hC1 => exact C_boxd Kd.string (by decide) _ _ (by simp) y0 #[.string y0] _ rfl); (case hs1 => omega); rintro e w2 ⟨rfl, hb2⟩
        refine hK2.out _ _ ?hS1 (fun hH2 => ?_)
        case hS1 => ((try dsimp only); (first | exact keepB4 (by assumption) (by assumption) | exact keepB4 (below_al _ _) (by assumption)))
        clear hK2 K2
        (try clear hH1)
        (try simp only [Act.put, List.setIfInBounds_toArray, List.set_cons_zero, List.set_cons_succ])
        refine takeY (oi := { dst := some 16, op := Op.unOp UnOp.not 4 (Operand.tmp 15), type := 4, pos := "props.go:18", after := #[{ on := 3, ground := Ground.data }], guard := none }) 4 (some 16) (v := ?v4_1) rfl rfl (by kernel_rfl) (by kernel_rfl) (by kernel_rfl) (fun _ _ _ h => h) (by kernel_rfl) ?hy1 hH2 ?_
        case hy1 => (intro w_ hSw; (try dsimp only at hSw); go_simp; (first | done | with_reducible rfl | rw [if_neg (by omega)]))
        simp only [Act.put, List.setIfInBounds_toArray, List.set_cons_zero, List.set_cons_succ]
        refine takeY (oi := { dst := some 17, op := Op.move (Operand.tmp 16), type := 4, pos := "props.go:18", after := #[{ on := 4, ground := Ground.data }, { on := 3, ground := Ground.chain }], guard := none }) 5 (some 17) (v := ?v5_1) rfl rfl (by kernel_rfl) (by kernel_rfl) (by kernel_rfl) (fun _ _ _ h => h) (by kernel_rfl) ?hy1 hH2 ?_
        case hy1 => (intro w_ hSw; (try dsimp only at hSw); go_simp; (first | done | with_reducible rfl | rw [if_neg (by omega)]))
        simp only [Act.put, List.setIfInBounds_toArray, List.set_cons_zero, List.set_cons_succ]
        refine takeN 6 (some 18) rfl (by kernel_rfl) (by kernel_rfl) (by kernel_rfl) (by kernel_rfl) (fun _ _ _ h => h) (by kernel_rfl) hH2 ?_
        simp only [Act.put, List.setIfInBounds_toArray, List.set_cons_zero, List.set_cons_succ]
        refine takeN 7 (some 19) rfl (by kernel_rfl) (by kernel_rfl) (by kernel_rfl) (by kernel_rfl) (fun _ _ _ h => h) (by kernel_rfl) hH2 ?_
        simp only [Act.put, List.setIfInBounds_toArray, List.set_cons_zero, List.set_cons_succ]
        refine takeN 8 (some 20) rfl (by kernel_rfl) (by kernel_rfl) (by kernel_rfl) (by kernel_rfl) (fun _ _ _ h => h) (by kernel_rfl) hH2 ?_
        simp only [Act.put, List.setIfInBounds_toArray, List.set_cons_zero, List.set_cons_succ]
        refine takeN 9 (some 21) rfl (by kernel_rfl) (by kernel_rfl) (by kernel_rfl) (by kernel_rfl) (fun _ _ _ h => h) (by kernel_rfl) hH2 ?_
        simp only [Act.put, List.setIfInBounds_toArray, List.set_cons_zero, List.set_cons_succ]
        refine takeN 10 (some 22) rfl (by kernel_rfl) (by kernel_rfl) (by kernel_rfl) (by kernel_rfl) (fun _ _ _ h => h) (by kernel_rfl) hH2 ?_
        simp only [Act.put, List.setIfInBounds_toArray, List.set_cons_zero, List.set_cons_succ]
        refine takeY (oi := { dst := some 23, op := Op.pick (Operand.tmp 17) (Operand.const (Value.bool true)) (Operand.tmp 22), type := 4, pos := "props.go:18", after := #[{ on := 5, ground := Ground.data }, { on := 10, ground := Ground.data }], guard := none }) 11 (some 23) (v := ?v11_1) rfl rfl (by kernel_rfl) (by kernel_rfl) (by kernel_rfl) (fun _ _ _ h => h) (by kernel_rfl) ?hy1 hH2 ?_
        case hy1 => (intro w_ hSw; (try dsimp only at hSw); go_simp; (first | done | with_reducible rfl | rw [if_neg (by omega)]))
        simp only [Act.put, List.setIfInBounds_toArray, List.set_cons_zero, List.set_cons_succ]
        refine takeY (oi := { dst := some 24, op := Op.move (Operand.tmp 23), type := 4, pos := "props.go:18", after := #[{ on := 11, ground := Ground.data }, { on := 9, ground := Ground.chain }], guard := none }) 12 (some 24) (v := ?v12_1) rfl rfl (by kernel_rfl) (by kernel_rfl) (by kernel_rfl) (fun _ _ _ h => h) (by kernel_rfl) ?hy1 hH2 ?_
        case hy1 => (intro w_ hSw; (try dsimp only at hSw); go_simp; (first | done | with_reducible rfl | rw [if_neg (by omega)]))
        simp only [Act.put, List.setIfInBounds_toArray, List.set_cons_zero, List.set_cons_succ]
        refine takeN 13 (some 25) rfl (by kernel_rfl) (by kernel_rfl) (by kernel_rfl) (by kernel_rfl) (fun _ _ _ h => h) (by kernel_rfl) hH2 ?_
        simp only [Act.put, List.setIfInBounds_toArray, List.set_cons_zero, List.set_cons_succ]
        refine takeN 14 (some 26) rfl (by kernel_rfl) (by kernel_rfl) (by kernel_rfl) (by kernel_rfl) (fun _ _ _ h => h) (by kernel_rfl) hH2 ?_
        simp only [Act.put, List.setIfInBounds_toArray, List.set_cons_zero, List.set_cons_succ]
        refine takeN 15 (some 27) rfl (by kernel_rfl) (by kernel_rfl) (by kernel_rfl) (by kernel_rfl) (fun _ _ _ h => h) (by kernel_rfl) hH2 ?_
        simp only [Act.put, List.setIfInBounds_toArray, List.set_cons_zero, List.set_cons_succ]
        refine takeN 16 (some 28) rfl (by kernel_rfl) (by kernel_rfl) (by kernel_rfl) (by kernel_rfl) (fun _ _ _ h => h) (by kernel_rfl) hH2 ?_
        simp only [Act.put, List.setIfInBounds_toArray, List.set_cons_zero, List.set_cons_succ]
        refine takeN 17 (some 29) rfl (by kernel_rfl) (by kernel_rfl) (by kernel_rfl) (by kernel_rfl) (fun _ _ _ h => h) (by kernel_rfl) hH2 ?_
        simp only [Act.put, List.setIfInBounds_toArray, List.set_cons_zero, List.set_cons_succ]
        refine takeN 18 (some 30) rfl (by kernel_rfl) (by kernel_rfl) (by kernel_rfl) (by kernel_rfl) (fun _ _ _ h => h) (by kernel_rfl) hH2 ?_
        simp only [Act.put, List.setIfInBounds_toArray, List.set_cons_zero, List.set_cons_succ]
        refine takeN 19 (some 31) rfl (by kernel_rfl) (by kernel_rfl) (by kernel_rfl) (by kernel_rfl) (fun _ _ _ h => h) (by kernel_rfl) hH2 ?_
        simp only [Act.put, List.setIfInBounds_toArray, List.set_cons_zero, List.set_cons_succ]
        refine takeN 20 (some 32) rfl (by kernel_rfl) (by kernel_rfl) (by kernel_rfl) (by kernel_rfl) (fun _ _ _ h => h) (by kernel_rfl) hH2 ?_
        simp only [Act.put, List.setIfInBounds_toArray, List.set_cons_zero, List.set_cons_succ]
        refine takeN 21 (some 33) rfl (by kernel_rfl) (by kernel_rfl) (by kernel_rfl) (by kernel_rfl) (fun _ _ _ h => h) (by kernel_rfl) hH2 ?_
        simp only [Act.put, List.setIfInBounds_toArray, List.set_cons_zero, List.set_cons_succ]
        refine takeN 22 (some 34) rfl (by kernel_rfl) (by kernel_rfl) (by kernel_rfl) (by kernel_rfl) (fun _ _ _ h => h) (by kernel_rfl) hH2 ?_
        simp only [Act.put, List.setIfInBounds_toArray, List.set_cons_zero, List.set_cons_succ]
        refine takeN 23 (some 35) rfl (by kernel_rfl) (by kernel_rfl) (by kernel_rfl) (by kernel_rfl) (fun _ _ _ h => h) (by kernel_rfl) hH2 ?_
        simp only [Act.put, List.setIfInBounds_toArray, List.set_cons_zero, List.set_cons_succ]
        refine takeN 24 (some 36) rfl (by kernel_rfl) (by kernel_rfl) (by kernel_rfl) (by kernel_rfl) (fun _ _ _ h => h) (by kernel_rfl) hH2 ?_
        simp only [Act.put, List.setIfInBounds_toArray, List.set_cons_zero, List.set_cons_succ]
        refine takeN 25 (some 37) rfl (by kernel_rfl) (by kernel_rfl) (by kernel_rfl) (by kernel_rfl) (fun _ _ _ h => h) (by kernel_rfl) hH2 ?_
        simp only [Act.put, List.setIfInBounds_toArray, List.set_cons_zero, List.set_cons_succ]
        refine takeY (oi := { dst := some 38, op := Op.pick (Operand.tmp 24) (Operand.const (Value.bool true)) (Operand.tmp 37), type := 4, pos := "props.go:18", after := #[{ on := 12, ground := Ground.data }, { on := 25, ground := Ground.data }], guard := none }) 26 (some 38) (v := ?v26_1) rfl rfl (by kernel_rfl) (by kernel_rfl) (by kernel_rfl) (fun _ _ _ h => h) (by kernel_rfl) ?hy1 hH2 ?_
        case hy1 => (intro w_ hSw; (try dsimp only at hSw); go_simp; (first | done | with_reducible rfl | rw [if_neg (by omega)]))
        simp only [Act.put, List.setIfInBounds_toArray, List.set_cons_zero, List.set_cons_succ]
        refine wpAnyH_done (by kernel_rfl) ?_ _
        have hEnd := hH2
        clear hH2
        have HE := Lib.hid (propsRight_no (by rw [← HI.out, HS.out, hN]; rfl))
        go_wp2
        go_ret
        exact ⟨ret_bool HE.out.symm, hEnd.2.2.2.2⟩
      | true => 
      cases hV : SValue.ok ⟨y1, y2, y3⟩ with
      | false =>
        go_wp2_with fail
        refine wp_region_held_drew (S := (fun w' => w'.cell? ⟨wr.heap.size, 0, none⟩ = some (.string y0) ∧ w'.cell? ⟨wr.heap.size, 1, none⟩ = some (.int .i64 y1) ∧ w'.cell? ⟨wr.heap.size, 2, none⟩ = some (.int .i64 y2) ∧ w'.cell? ⟨wr.heap.size, 3, none⟩ = some (.string y3) ∧ Below w.heap.size w w')) (by kernel_rfl) ?hS2 (fun hH0 => ?_)
        case hS2 => refine ⟨by go_keep, by go_keep, by go_keep, by go_keep, below_drew (HB.out.alloc HB.out.size _)⟩
        refine takeY (oi := { dst := some 12, op := Op.fieldAddr 117 (Operand.tmp 4) 0, type := 0, pos := "props.go:18", after := #[], guard := none }) 0 (some 12) (v := ?v0_2) rfl rfl (by kernel_rfl) (by kernel_rfl) (by kernel_rfl) (fun _ _ _ h => h) (by kernel_rfl) ?hy2 hH0 ?_
        case hy2 => (intro w_ hSw; (try dsimp only at hSw); go_simp; (first | done | with_reducible rfl | rw [if_neg (by omega)]))
        simp only [Act.put, List.setIfInBounds_toArray, List.set_cons_zero, List.set_cons_succ]
        refine takeY (oi := { dst := some 13, op := Op.load 9 (Operand.tmp 12), type := 9, pos := "props.go:18", after := #[{ on := 0, ground := Ground.data }], guard := none }) 1 (some 13) (v := ?v1_2) rfl rfl (by kernel_rfl) (by kernel_rfl) (by kernel_rfl) (fun _ _ _ h => h) (by kernel_rfl) ?hy2 hH0 ?_
        case hy2 => (intro w_ hSw; (try dsimp only at hSw); go_simp; (first | done | with_reducible rfl | rw [if_neg (by omega)]))
        simp only [Act.put, List.setIfInBounds_toArray, List.set_cons_zero, List.set_cons_succ]
        refine wpAnyH_ready (rs := [2]) (by kernel_rfl) (by simp) ?_
        refine AllReadyH.cons (o := { dst := some 14, op := Op.buildSlice 174 1 #[(0, Operand.tmp 13)], type := 174, pos := "props.go:18", after := #[{ on := 1, ground := Ground.data }], guard := none }) rfl (fun K1 hK1 => ?_) AllReadyH.nil
        go_simp
        refine hK1.out _ _ ?hS2 (fun hH1 => ?_)
        case hS2 => ((try dsimp only); (first | exact keepB4 (by assumption) (by assumption) | exact keepB4 (below_al _ _) (by assumption)))
        clear hK1 K1
        (try clear hH0)
        (try simp only [Act.put, List.setIfInBounds_toArray, List.set_cons_zero, List.set_cons_succ])
        refine wpAnyH_ready (rs := [3]) (by kernel_rfl) (by simp) ?_
        refine AllReadyH.cons (o := { dst := some 15, op := Op.call { callee := Callee.value (Operand.func 85), args := #[Operand.tmp 14], argTypes := #[174] }, type := 4, pos := "props.go:18", after := #[{ on := 2, ground := Ground.data }], guard := none }) rfl (fun K2 hK2 => ?_) AllReadyH.nil
        go_simp; refine (letter_Right_one _ 1 y0 _ ?hC2 ?hs2 true hN).mono ?_; (case hC2 => exact C_boxd Kd.string (by decide) _ _ (by simp) y0 #[.string y0] _ rfl); (case hs2 => omega); rintro e w2 ⟨rfl, hb2⟩
        refine hK2.out _ _ ?hS2 (fun hH2 => ?_)
        case hS2 => ((try dsimp only); (first | exact keepB4 (by assumption) (by assumption) | exact keepB4 (below_al _ _) (by assumption)))
        clear hK2 K2
        (try clear hH1)
        (try simp only [Act.put, List.setIfInBounds_toArray, List.set_cons_zero, List.set_cons_succ])
        refine takeY (oi := { dst := some 16, op := Op.unOp UnOp.not 4 (Operand.tmp 15), type := 4, pos := "props.go:18", after := #[{ on := 3, ground := Ground.data }], guard := none }) 4 (some 16) (v := ?v4_2) rfl rfl (by kernel_rfl) (by kernel_rfl) (by kernel_rfl) (fun _ _ _ h => h) (by kernel_rfl) ?hy2 hH2 ?_
        case hy2 => (intro w_ hSw; (try dsimp only at hSw); go_simp; (first | done | with_reducible rfl | rw [if_neg (by omega)]))
        simp only [Act.put, List.setIfInBounds_toArray, List.set_cons_zero, List.set_cons_succ]
        refine takeY (oi := { dst := some 17, op := Op.move (Operand.tmp 16), type := 4, pos := "props.go:18", after := #[{ on := 4, ground := Ground.data }, { on := 3, ground := Ground.chain }], guard := none }) 5 (some 17) (v := ?v5_2) rfl rfl (by kernel_rfl) (by kernel_rfl) (by kernel_rfl) (fun _ _ _ h => h) (by kernel_rfl) ?hy2 hH2 ?_
        case hy2 => (intro w_ hSw; (try dsimp only at hSw); go_simp; (first | done | with_reducible rfl | rw [if_neg (by omega)]))
        simp only [Act.put, List.setIfInBounds_toArray, List.set_cons_zero, List.set_cons_succ]
        refine takeY (oi := { dst := some 18, op := Op.fieldAddr 117 (Operand.tmp 4) 1, type := 0, pos := "props.go:18", after := #[{ on := 5, ground := Ground.guard }], guard := some (5, false) }) 6 (some 18) (v := ?v6_2) rfl rfl (by kernel_rfl) (by kernel_rfl) (by kernel_rfl) (fun _ _ _ h => h) (by kernel_rfl) ?hy2 hH2 ?_
        case hy2 => (intro w_ hSw; (try dsimp only at hSw); go_simp; (first | done | with_reducible rfl | rw [if_neg (by omega)]))
        simp only [Act.put, List.setIfInBounds_toArray, List.set_cons_zero, List.set_cons_succ]
        refine takeY (oi := { dst := some 19, op := Op.load 42 (Operand.tmp 18), type := 42, pos := "props.go:18", after := #[{ on := 6, ground := Ground.data }, { on := 5, ground := Ground.guard }], guard := some (5, false) }) 7 (some 19) (v := ?v7_2) rfl rfl (by kernel_rfl) (by kernel_rfl) (by kernel_rfl) (fun _ _ _ h => h) (by kernel_rfl) ?hy2 hH2 ?_
        case hy2 => (intro w_ hSw; (try dsimp only at hSw); go_simp; (first | done | with_reducible rfl | rw [if_neg (by omega)]))
        simp only [Act.put, List.setIfInBounds_toArray, List.set_cons_zero, List.set_cons_succ]
        refine wpAnyH_ready (rs := [8]) (by kernel_rfl) (by simp) ?_
        refine AllReadyH.cons (o := { dst := some 20, op := Op.buildSlice 188 1 #[(0, Operand.tmp 19)], type := 188, pos := "props.go:18", after := #[{ on := 7, ground := Ground.data }, { on := 5, ground := Ground.guard }], guard := some (5, false) }) rfl (fun K3 hK3 => ?_) AllReadyH.nil
        go_simp
        refine hK3.out _ _ ?hS2 (fun hH3 => ?_)
        case hS2 => ((try dsimp only); (first | exact keepB4 (by assumption) (by assumption) | exact keepB4 (below_al _ _) (by assumption)))
        clear hK3 K3
        (try clear hH2)
        (try simp only [Act.put, List.setIfInBounds_toArray, List.set_cons_zero, List.set_cons_succ])
        refine wpAnyH_ready (rs := [9]) (by kernel_rfl) (by simp) ?_
        refine AllReadyH.cons (o := { dst := some 21, op := Op.call { callee := Callee.value (Operand.func 116), args := #[Operand.tmp 20], argTypes := #[188] }, type := 4, pos := "props.go:18", after := #[{ on := 8, ground := Ground.data }, { on := 5, ground := Ground.chain }, { on := 5, ground := Ground.guard }], guard := some (5, false) }) rfl (fun K4 hK4 => ?_) AllReadyH.nil
        go_simp; refine (value_Right_one _ 1 ⟨y1, y2, y3⟩ _ ?hC2 false hV).mono ?_; (case hC2 => exact C_boxg kValue (by decide) _ _ (by simp) ⟨y1, y2, y3⟩ #[.int .i64 y1, .int .i64 y2, .string y3] _ (kValue_mk _ _)); rintro e w3 ⟨rfl, hb3⟩
        refine hK4.out _ _ ?hS2 (fun hH4 => ?_)
        case hS2 => ((try dsimp only); (first | exact keepB4 (by assumption) (by assumption) | exact keepB4 (below_al _ _) (by assumption)))
        clear hK4 K4
        (try clear hH3)
        (try simp only [Act.put, List.setIfInBounds_toArray, List.set_cons_zero, List.set_cons_succ])
        refine takeY (oi := { dst := some 22, op := Op.unOp UnOp.not 4 (Operand.tmp 21), type := 4, pos := "props.go:18", after := #[{ on := 9, ground := Ground.data }, { on := 5, ground := Ground.guard }], guard := some (5, false) }) 10 (some 22) (v := ?v10_2) rfl rfl (by kernel_rfl) (by kernel_rfl) (by kernel_rfl) (fun _ _ _ h => h) (by kernel_rfl) ?hy2 hH4 ?_
        case hy2 => (intro w_ hSw; (try dsimp only at hSw); go_simp; (first | done | with_reducible rfl | rw [if_neg (by omega)]))
        simp only [Act.put, List.setIfInBounds_toArray, List.set_cons_zero, List.set_cons_succ]
        refine takeY (oi := { dst := some 23, op := Op.pick (Operand.tmp 17) (Operand.const (Value.bool true)) (Operand.tmp 22), type := 4, pos := "props.go:18", after := #[{ on := 5, ground := Ground.data }, { on := 10, ground := Ground.data }], guard := none }) 11 (some 23) (v := ?v11_2) rfl rfl (by kernel_rfl) (by kernel_rfl) (by kernel_rfl) (fun _ _ _ h => h) (by kernel_rfl) ?hy2 hH4 ?_
        case hy2 => (intro w_ hSw; (try dsimp only at hSw); go_simp; (first | done | with_reducible rfl | rw [if_neg (by omega)]))
        simp only [Act.put, List.setIfInBounds_toArray, List.set_cons_zero, List.set_cons_succ]
        refine takeY (oi := { dst := some 24, op := Op.move (Operand.tmp 23), type := 4, pos := "props.go:18", after := #[{ on := 11, ground := Ground.data }, { on := 9, ground := Ground.chain }], guard := none }) 12 (some 24) (v := ?v12_2) rfl rfl (by kernel_rfl) (by kernel_rfl) (by kernel_rfl) (fun _ _ _ h => h) (by kernel_rfl) ?hy2 hH4 ?_
        case hy2 => (intro w_ hSw; (try dsimp only at hSw); go_simp; (first | done | with_reducible rfl | rw [if_neg (by omega)]))
        simp only [Act.put, List.setIfInBounds_toArray, List.set_cons_zero, List.set_cons_succ]
        refine takeN 13 (some 25) rfl (by kernel_rfl) (by kernel_rfl) (by kernel_rfl) (by kernel_rfl) (fun _ _ _ h => h) (by kernel_rfl) hH4 ?_
        simp only [Act.put, List.setIfInBounds_toArray, List.set_cons_zero, List.set_cons_succ]
        refine takeN 14 (some 26) rfl (by kernel_rfl) (by kernel_rfl) (by kernel_rfl) (by kernel_rfl) (fun _ _ _ h => h) (by kernel_rfl) hH4 ?_
        simp only [Act.put, List.setIfInBounds_toArray, List.set_cons_zero, List.set_cons_succ]
        refine takeN 15 (some 27) rfl (by kernel_rfl) (by kernel_rfl) (by kernel_rfl) (by kernel_rfl) (fun _ _ _ h => h) (by kernel_rfl) hH4 ?_
        simp only [Act.put, List.setIfInBounds_toArray, List.set_cons_zero, List.set_cons_succ]
        refine takeN 16 (some 28) rfl (by kernel_rfl) (by kernel_rfl) (by kernel_rfl) (by kernel_rfl) (fun _ _ _ h => h) (by kernel_rfl) hH4 ?_
        simp only [Act.put, List.setIfInBounds_toArray, List.set_cons_zero, List.set_cons_succ]
        refine takeN 17 (some 29) rfl (by kernel_rfl) (by kernel_rfl) (by kernel_rfl) (by kernel_rfl) (fun _ _ _ h => h) (by kernel_rfl) hH4 ?_
        simp only [Act.put, List.setIfInBounds_toArray, List.set_cons_zero, List.set_cons_succ]
        refine takeN 18 (some 30) rfl (by kernel_rfl) (by kernel_rfl) (by kernel_rfl) (by kernel_rfl) (fun _ _ _ h => h) (by kernel_rfl) hH4 ?_
        simp only [Act.put, List.setIfInBounds_toArray, List.set_cons_zero, List.set_cons_succ]
        refine takeN 19 (some 31) rfl (by kernel_rfl) (by kernel_rfl) (by kernel_rfl) (by kernel_rfl) (fun _ _ _ h => h) (by kernel_rfl) hH4 ?_
        simp only [Act.put, List.setIfInBounds_toArray, List.set_cons_zero, List.set_cons_succ]
        refine takeN 20 (some 32) rfl (by kernel_rfl) (by kernel_rfl) (by kernel_rfl) (by kernel_rfl) (fun _ _ _ h => h) (by kernel_rfl) hH4 ?_
        simp only [Act.put, List.setIfInBounds_toArray, List.set_cons_zero, List.set_cons_succ]
        refine takeN 21 (some 33) rfl (by kernel_rfl) (by kernel_rfl) (by kernel_rfl) (by kernel_rfl) (fun _ _ _ h => h) (by kernel_rfl) hH4 ?_
        simp only [Act.put, List.setIfInBounds_toArray, List.set_cons_zero, List.set_cons_succ]
        refine takeN 22 (some 34) rfl (by kernel_rfl) (by kernel_rfl) (by kernel_rfl) (by kernel_rfl) (fun _ _ _ h => h) (by kernel_rfl) hH4 ?_
        simp only [Act.put, List.setIfInBounds_toArray, List.set_cons_zero, List.set_cons_succ]
        refine takeN 23 (some 35) rfl (by kernel_rfl) (by kernel_rfl) (by kernel_rfl) (by kernel_rfl) (fun _ _ _ h => h) (by kernel_rfl) hH4 ?_
        simp only [Act.put, List.setIfInBounds_toArray, List.set_cons_zero, List.set_cons_succ]
        refine takeN 24 (some 36) rfl (by kernel_rfl) (by kernel_rfl) (by kernel_rfl) (by kernel_rfl) (fun _ _ _ h => h) (by kernel_rfl) hH4 ?_
        simp only [Act.put, List.setIfInBounds_toArray, List.set_cons_zero, List.set_cons_succ]
        refine takeN 25 (some 37) rfl (by kernel_rfl) (by kernel_rfl) (by kernel_rfl) (by kernel_rfl) (fun _ _ _ h => h) (by kernel_rfl) hH4 ?_
        simp only [Act.put, List.setIfInBounds_toArray, List.set_cons_zero, List.set_cons_succ]
        refine takeY (oi := { dst := some 38, op := Op.pick (Operand.tmp 24) (Operand.const (Value.bool true)) (Operand.tmp 37), type := 4, pos := "props.go:18", after := #[{ on := 12, ground := Ground.data }, { on := 25, ground := Ground.data }], guard := none }) 26 (some 38) (v := ?v26_2) rfl rfl (by kernel_rfl) (by kernel_rfl) (by kernel_rfl) (fun _ _ _ h => h) (by kernel_rfl) ?hy2 hH4 ?_
        case hy2 => (intro w_ hSw; (try dsimp only at hSw); go_simp; (first | done | with_reducible rfl | rw [if_neg (by omega)]))
        simp only [Act.put, List.setIfInBounds_toArray, List.set_cons_zero, List.set_cons_succ]
        refine wpAnyH_done (by kernel_rfl) ?_ _
        have hEnd := hH4
        clear hH4
        have HE := Lib.hid (propsRight_no (by rw [← HI.out, HS.out, hN, hV]; rfl))
        go_wp2
        go_ret
        exact ⟨ret_bool HE.out.symm, hEnd.2.2.2.2⟩
      | true =>
      by_cases hk0 : k = 0
      · subst hk0
        simp only [Nat.zero_mul, add_zero_] at g0 g1 g2 g3
        go_wp2_with fail
        refine wp_region_held_drew (S := (fun w' => w'.cell? ⟨wr.heap.size, 0, none⟩ = some (.string y0) ∧ w'.cell? ⟨wr.heap.size, 1, none⟩ = some (.int .i64 y1) ∧ w'.cell? ⟨wr.heap.size, 2, none⟩ = some (.int .i64 y2) ∧ w'.cell? ⟨wr.heap.size, 3, none⟩ = some (.string y3) ∧ Below w.heap.size w w')) (by kernel_rfl) ?hS3 (fun hH0 => ?_)
        case hS3 => refine ⟨by go_keep, by go_keep, by go_keep, by go_keep, below_drew (HB.out.alloc HB.out.size _)⟩
        refine takeY (oi := { dst := some 12, op := Op.fieldAddr 117 (Operand.tmp 4) 0, type := 0, pos := "props.go:18", after := #[], guard := none }) 0 (some 12) (v := ?v0_3) rfl rfl (by kernel_rfl) (by kernel_rfl) (by kernel_rfl) (fun _ _ _ h => h) (by kernel_rfl) ?hy3 hH0 ?_
        case hy3 => (intro w_ hSw; (try dsimp only at hSw); go_simp; (first | done | with_reducible rfl | rw [if_neg (by omega)]))
        simp only [Act.put, List.setIfInBounds_toArray, List.set_cons_zero, List.set_cons_succ]
        refine takeY (oi := { dst := some 13, op := Op.load 9 (Operand.tmp 12), type := 9, pos := "props.go:18", after := #[{ on := 0, ground := Ground.data }], guard := none }) 1 (some 13) (v := ?v1_3) rfl rfl (by kernel_rfl) (by kernel_rfl) (by kernel_rfl) (fun _ _ _ h => h) (by kernel_rfl) ?hy3 hH0 ?_
        case hy3 => (intro w_ hSw; (try dsimp only at hSw); go_simp; (first | done | with_reducible rfl | rw [if_neg (by omega)]))
        simp only [Act.put, List.setIfInBounds_toArray, List.set_cons_zero, List.set_cons_succ]
        refine wpAnyH_ready (rs := [2]) (by kernel_rfl) (by simp) ?_
        refine AllReadyH.cons (o := { dst := some 14, op := Op.buildSlice 174 1 #[(0, Operand.tmp 13)], type := 174, pos := "props.go:18", after := #[{ on := 1, ground := Ground.data }], guard := none }) rfl (fun K1 hK1 => ?_) AllReadyH.nil
        go_simp
        refine hK1.out _ _ ?hS3 (fun hH1 => ?_)
        case hS3 => ((try dsimp only); (first | exact keepB4 (by assumption) (by assumption) | exact keepB4 (below_al _ _) (by assumption)))
        clear hK1 K1
        (try clear hH0)
        (try simp only [Act.put, List.setIfInBounds_toArray, List.set_cons_zero, List.set_cons_succ])
        refine wpAnyH_ready (rs := [3]) (by kernel_rfl) (by simp) ?_
        refine AllReadyH.cons (o := { dst := some 15, op := Op.call { callee := Callee.value (Operand.func 85), args := #[Operand.tmp 14], argTypes := #[174] }, type := 4, pos := "props.go:18", after := #[{ on := 2, ground := Ground.data }], guard := none }) rfl (fun K2 hK2 => ?_) AllReadyH.nil
        go_simp; refine (letter_Right_one _ 1 y0 _ ?hC3 ?hs3 true hN).mono ?_; (case hC3 => exact C_boxd Kd.string (by decide) _ _ (by simp) y0 #[.string y0] _ rfl); (case hs3 => omega); rintro e w2 ⟨rfl, hb2⟩
        refine hK2.out _ _ ?hS3 (fun hH2 => ?_)
        case hS3 => ((try dsimp only); (first | exact keepB4 (by assumption) (by assumption) | exact keepB4 (below_al _ _) (by assumption)))
        clear hK2 K2
        (try clear hH1)
        (try simp only [Act.put, List.setIfInBounds_toArray, List.set_cons_zero, List.set_cons_succ])
        refine takeY (oi := { dst := some 16, op := Op.unOp UnOp.not 4 (Operand.tmp 15), type := 4, pos := "props.go:18", after := #[{ on := 3, ground := Ground.data }], guard := none }) 4 (some 16) (v := ?v4_3) rfl rfl (by kernel_rfl) (by kernel_rfl) (by kernel_rfl) (fun _ _ _ h => h) (by kernel_rfl) ?hy3 hH2 ?_
        case hy3 => (intro w_ hSw; (try dsimp only at hSw); go_simp; (first | done | with_reducible rfl | rw [if_neg (by omega)]))
        simp only [Act.put, List.setIfInBounds_toArray, List.set_cons_zero, List.set_cons_succ]
        refine takeY (oi := { dst := some 17, op := Op.move (Operand.tmp 16), type := 4, pos := "props.go:18", after := #[{ on := 4, ground := Ground.data }, { on := 3, ground := Ground.chain }], guard := none }) 5 (some 17) (v := ?v5_3) rfl rfl (by kernel_rfl) (by kernel_rfl) (by kernel_rfl) (fun _ _ _ h => h) (by kernel_rfl) ?hy3 hH2 ?_
        case hy3 => (intro w_ hSw; (try dsimp only at hSw); go_simp; (first | done | with_reducible rfl | rw [if_neg (by omega)]))
        simp only [Act.put, List.setIfInBounds_toArray, List.set_cons_zero, List.set_cons_succ]
        refine takeY (oi := { dst := some 18, op := Op.fieldAddr 117 (Operand.tmp 4) 1, type := 0, pos := "props.go:18", after := #[{ on := 5, ground := Ground.guard }], guard := some (5, false) }) 6 (some 18) (v := ?v6_3) rfl rfl (by kernel_rfl) (by kernel_rfl) (by kernel_rfl) (fun _ _ _ h => h) (by kernel_rfl) ?hy3 hH2 ?_
        case hy3 => (intro w_ hSw; (try dsimp only at hSw); go_simp; (first | done | with_reducible rfl | rw [if_neg (by omega)]))
        simp only [Act.put, List.setIfInBounds_toArray, List.set_cons_zero, List.set_cons_succ]
        refine takeY (oi := { dst := some 19, op := Op.load 42 (Operand.tmp 18), type := 42, pos := "props.go:18", after := #[{ on := 6, ground := Ground.data }, { on := 5, ground := Ground.guard }], guard := some (5, false) }) 7 (some 19) (v := ?v7_3) rfl rfl (by kernel_rfl) (by kernel_rfl) (by kernel_rfl) (fun _ _ _ h => h) (by kernel_rfl) ?hy3 hH2 ?_
        case hy3 => (intro w_ hSw; (try dsimp only at hSw); go_simp; (first | done | with_reducible rfl | rw [if_neg (by omega)]))
        simp only [Act.put, List.setIfInBounds_toArray, List.set_cons_zero, List.set_cons_succ]
        refine wpAnyH_ready (rs := [8]) (by kernel_rfl) (by simp) ?_
        refine AllReadyH.cons (o := { dst := some 20, op := Op.buildSlice 188 1 #[(0, Operand.tmp 19)], type := 188, pos := "props.go:18", after := #[{ on := 7, ground := Ground.data }, { on := 5, ground := Ground.guard }], guard := some (5, false) }) rfl (fun K3 hK3 => ?_) AllReadyH.nil
        go_simp
        refine hK3.out _ _ ?hS3 (fun hH3 => ?_)
        case hS3 => ((try dsimp only); (first | exact keepB4 (by assumption) (by assumption) | exact keepB4 (below_al _ _) (by assumption)))
        clear hK3 K3
        (try clear hH2)
        (try simp only [Act.put, List.setIfInBounds_toArray, List.set_cons_zero, List.set_cons_succ])
        refine wpAnyH_ready (rs := [9]) (by kernel_rfl) (by simp) ?_
        refine AllReadyH.cons (o := { dst := some 21, op := Op.call { callee := Callee.value (Operand.func 116), args := #[Operand.tmp 20], argTypes := #[188] }, type := 4, pos := "props.go:18", after := #[{ on := 8, ground := Ground.data }, { on := 5, ground := Ground.chain }, { on := 5, ground := Ground.guard }], guard := some (5, false) }) rfl (fun K4 hK4 => ?_) AllReadyH.nil
        go_simp; refine (value_Right_one _ 1 ⟨y1, y2, y3⟩ _ ?hC3 true hV).mono ?_; (case hC3 => exact C_boxg kValue (by decide) _ _ (by simp) ⟨y1, y2, y3⟩ #[.int .i64 y1, .int .i64 y2, .string y3] _ (kValue_mk _ _)); rintro e w3 ⟨rfl, hb3⟩
        refine hK4.out _ _ ?hS3 (fun hH4 => ?_)
        case hS3 => ((try dsimp only); (first | exact keepB4 (by assumption) (by assumption) | exact keepB4 (below_al _ _) (by assumption)))
        clear hK4 K4
        (try clear hH3)
        (try simp only [Act.put, List.setIfInBounds_toArray, List.set_cons_zero, List.set_cons_succ])
        refine takeY (oi := { dst := some 22, op := Op.unOp UnOp.not 4 (Operand.tmp 21), type := 4, pos := "props.go:18", after := #[{ on := 9, ground := Ground.data }, { on := 5, ground := Ground.guard }], guard := some (5, false) }) 10 (some 22) (v := ?v10_3) rfl rfl (by kernel_rfl) (by kernel_rfl) (by kernel_rfl) (fun _ _ _ h => h) (by kernel_rfl) ?hy3 hH4 ?_
        case hy3 => (intro w_ hSw; (try dsimp only at hSw); go_simp; (first | done | with_reducible rfl | rw [if_neg (by omega)]))
        simp only [Act.put, List.setIfInBounds_toArray, List.set_cons_zero, List.set_cons_succ]
        refine takeY (oi := { dst := some 23, op := Op.pick (Operand.tmp 17) (Operand.const (Value.bool true)) (Operand.tmp 22), type := 4, pos := "props.go:18", after := #[{ on := 5, ground := Ground.data }, { on := 10, ground := Ground.data }], guard := none }) 11 (some 23) (v := ?v11_3) rfl rfl (by kernel_rfl) (by kernel_rfl) (by kernel_rfl) (fun _ _ _ h => h) (by kernel_rfl) ?hy3 hH4 ?_
        case hy3 => (intro w_ hSw; (try dsimp only at hSw); go_simp; (first | done | with_reducible rfl | rw [if_neg (by omega)]))
        simp only [Act.put, List.setIfInBounds_toArray, List.set_cons_zero, List.set_cons_succ]
        refine takeY (oi := { dst := some 24, op := Op.move (Operand.tmp 23), type := 4, pos := "props.go:18", after := #[{ on := 11, ground := Ground.data }, { on := 9, ground := Ground.chain }], guard := none }) 12 (some 24) (v := ?v12_3) rfl rfl (by kernel_rfl) (by kernel_rfl) (by kernel_rfl) (fun _ _ _ h => h) (by kernel_rfl) ?hy3 hH4 ?_
        case hy3 => (intro w_ hSw; (try dsimp only at hSw); go_simp; (first | done | with_reducible rfl | rw [if_neg (by omega)]))
        simp only [Act.put, List.setIfInBounds_toArray, List.set_cons_zero, List.set_cons_succ]
        refine takeY (oi := { dst := some 25, op := Op.move (Operand.tmp 3), type := 3, pos := "props.go:18", after := #[{ on := 12, ground := Ground.guard }], guard := some (12, false) }) 13 (some 25) (v := ?v13_3) rfl rfl (by kernel_rfl) (by kernel_rfl) (by kernel_rfl) (fun _ _ _ h => h) (by kernel_rfl) ?hy3 hH4 ?_
        case hy3 => (intro w_ hSw; (try dsimp only at hSw); go_simp; (first | done | with_reducible rfl | rw [if_neg (by omega)]))
        simp only [Act.put, List.setIfInBounds_toArray, List.set_cons_zero, List.set_cons_succ]
        refine takeY (oi := { dst := some 26, op := Op.binOp BinOp.gtr 3 (Operand.tmp 25) (Operand.const (Value.int IntKind.i64 0)) 3, type := 4, pos := "props.go:18", after := #[{ on := 13, ground := Ground.data }, { on := 12, ground := Ground.guard }], guard := some (12, false) }) 14 (some 26) (v := ?v14_3) rfl rfl (by kernel_rfl) (by kernel_rfl) (by kernel_rfl) (fun _ _ _ h => h) (by kernel_rfl) ?hy3 hH4 ?_
        case hy3 => (intro w_ hSw; (try dsimp only at hSw); go_simp; (first | done | with_reducible rfl | rw [if_neg (by omega)]))
        simp only [Act.put, List.setIfInBounds_toArray, List.set_cons_zero, List.set_cons_succ]
        refine takeY (oi := { dst := some 27, op := Op.move (Operand.tmp 26), type := 4, pos := "props.go:18", after := #[{ on := 14, ground := Ground.data }, { on := 12, ground := Ground.chain }, { on := 12, ground := Ground.guard }], guard := some (12, false) }) 15 (some 27) (v := ?v15_3) rfl rfl (by kernel_rfl) (by kernel_rfl) (by kernel_rfl) (fun _ _ _ h => h) (by kernel_rfl) ?hy3 hH4 ?_
        case hy3 => (intro w_ hSw; (try dsimp only at hSw); go_simp; (first | done | with_reducible rfl | rw [if_neg (by omega)]))
        simp only [Act.put, List.setIfInBounds_toArray, List.set_cons_zero, List.set_cons_succ]
        refine takeN 16 (some 28) rfl (by kernel_rfl) (by kernel_rfl) (by kernel_rfl) (by kernel_rfl) (fun _ _ _ h => h) (by kernel_rfl) hH4 ?_
        simp only [Act.put, List.setIfInBounds_toArray, List.set_cons_zero, List.set_cons_succ]
        refine takeN 17 (some 29) rfl (by kernel_rfl) (by kernel_rfl) (by kernel_rfl) (by kernel_rfl) (fun _ _ _ h => h) (by kernel_rfl) hH4 ?_
        simp only [Act.put, List.setIfInBounds_toArray, List.set_cons_zero, List.set_cons_succ]
        refine takeN 18 (some 30) rfl (by kernel_rfl) (by kernel_rfl) (by kernel_rfl) (by kernel_rfl) (fun _ _ _ h => h) (by kernel_rfl) hH4 ?_
        simp only [Act.put, List.setIfInBounds_toArray, List.set_cons_zero, List.set_cons_succ]
        refine takeN 19 (some 31) rfl (by kernel_rfl) (by kernel_rfl) (by kernel_rfl) (by kernel_rfl) (fun _ _ _ h => h) (by kernel_rfl) hH4 ?_
        simp only [Act.put, List.setIfInBounds_toArray, List.set_cons_zero, List.set_cons_succ]
        refine takeN 20 (some 32) rfl (by kernel_rfl) (by kernel_rfl) (by kernel_rfl) (by kernel_rfl) (fun _ _ _ h => h) (by kernel_rfl) hH4 ?_
        simp only [Act.put, List.setIfInBounds_toArray, List.set_cons_zero, List.set_cons_succ]
        refine takeN 21 (some 33) rfl (by kernel_rfl) (by kernel_rfl) (by kernel_rfl) (by kernel_rfl) (fun _ _ _ h => h) (by kernel_rfl) hH4 ?_
        simp only [Act.put, List.setIfInBounds_toArray, List.set_cons_zero, List.set_cons_succ]
        refine takeN 22 (some 34) rfl (by kernel_rfl) (by kernel_rfl) (by kernel_rfl) (by kernel_rfl) (fun _ _ _ h => h) (by kernel_rfl) hH4 ?_
        simp only [Act.put, List.setIfInBounds_toArray, List.set_cons_zero, List.set_cons_succ]
        refine takeN 23 (some 35) rfl (by kernel_rfl) (by kernel_rfl) (by kernel_rfl) (by kernel_rfl) (fun _ _ _ h => h) (by kernel_rfl) hH4 ?_
        simp only [Act.put, List.setIfInBounds_toArray, List.set_cons_zero, List.set_cons_succ]
        refine takeN 24 (some 36) rfl (by kernel_rfl) (by kernel_rfl) (by kernel_rfl) (by kernel_rfl) (fun _ _ _ h => h) (by kernel_rfl) hH4 ?_
        simp only [Act.put, List.setIfInBounds_toArray, List.set_cons_zero, List.set_cons_succ]
        refine takeY (oi := { dst := some 37, op := Op.pick (Operand.tmp 27) (Operand.tmp 36) (Operand.const (Value.bool false)), type := 4, pos := "props.go:18", after := #[{ on := 15, ground := Ground.data }, { on := 24, ground := Ground.data }, { on := 12, ground := Ground.guard }], guard := some (12, false) }) 25 (some 37) (v := ?v25_3) rfl rfl (by kernel_rfl) (by kernel_rfl) (by kernel_rfl) (fun _ _ _ h => h) (by kernel_rfl) ?hy3 hH4 ?_
        case hy3 => (intro w_ hSw; (try dsimp only at hSw); go_simp; (first | done | with_reducible rfl | rw [if_neg (by omega)]))
        simp only [Act.put, List.setIfInBounds_toArray, List.set_cons_zero, List.set_cons_succ]
        refine takeY (oi := { dst := some 38, op := Op.pick (Operand.tmp 24) (Operand.const (Value.bool true)) (Operand.tmp 37), type := 4, pos := "props.go:18", after := #[{ on := 12, ground := Ground.data }, { on := 25, ground := Ground.data }], guard := none }) 26 (some 38) (v := ?v26_3) rfl rfl (by kernel_rfl) (by kernel_rfl) (by kernel_rfl) (fun _ _ _ h => h) (by kernel_rfl) ?hy3 hH4 ?_
        case hy3 => (intro w_ hSw; (try dsimp only at hSw); go_simp; (first | done | with_reducible rfl | rw [if_neg (by omega)]))
        simp only [Act.put, List.setIfInBounds_toArray, List.set_cons_zero, List.set_cons_succ]
        refine wpAnyH_done (by kernel_rfl) ?_ _
        have hEnd := hH4
        clear hH4
        have HB2 := Lib.hid (hEnd.2.2.2.2)
        have HE := Lib.hid (HS.out.symm.trans HI.out)
        rw [hN, hV] at HE
        go_wp2
        go_roundw
        case rel => exact ⟨1, by omega, by go_num, HB2, Lib.hid (by rw [← HE.out]; simp [prevAt])⟩
        case measure => simp [intOf]; omega
      · obtain ⟨m, rfl⟩ : ∃ m, k = m + 1 := ⟨k - 1, by omega⟩
        obtain ⟨ad', e, f0, f1, f2, f3⟩ := at_Prp (Kd.C_below HX.out HB.out) (m : Int) (by omega) (by omega)
        obtain rfl : ad = ad' := by injection e
        clear e
        simp only [Int.toNat_natCast, rd_Prp] at f0 f1 f2 f3
        have hmem2 := HF.out (l.getD m zPrp) (by simp [List.getD_eq_getElem?_getD, List.getElem?_eq_getElem (show m < l.length by omega)])
        have HP : Hid (prevAt l (m + 1) = some (l.getD m zPrp).f0) := Lib.hid (by simp [prevAt])
        cases hx : l.getD m zPrp with
        | mk x0 xv =>
        cases xv with
        | mk x1 x2 x3 =>
        rw [hx] at f0 f1 f2 f3 HP hmem2
        simp only at f0 f1 f2 f3 hmem2
        clear hx
        have hwr : IntKind.i64.wrap (m : Int) = (m : Int) := IntWalk.i64_in _ (by omega)
        have hm1 : (0 : Int) ≤ (m : Int) := by omega
        have hm2 : (m : Int) < (l.length : Int) := by omega
        by_cases hC : cmpS x0 y0 < 0
        · have HS2 := Lib.hid (show propsFrom (prevAt l (m + 1)) (l.drop (m + 1)) = propsFrom (prevAt l (m + 1 + 1)) (l.drop (m + 1 + 1)) by rw [HS.out, hN, hV, HP.out]; simp [hC])
          go_wp2_with fail
          refine wp_region_held_drew (S := (fun w' => w'.cell? ⟨wr.heap.size, 0, none⟩ = some (.string y0) ∧ w'.cell? ⟨wr.heap.size, 1, none⟩ = some (.int .i64 y1) ∧ w'.cell? ⟨wr.heap.size, 2, none⟩ = some (.int .i64 y2) ∧ w'.cell? ⟨wr.heap.size, 3, none⟩ = some (.string y3) ∧ w'.cell? (ad.add (m * 4)) = some (.string x0) ∧ w'.cell? ⟨(ad.add (m * 4)).block, (ad.add (m * 4)).off + 1, none⟩ = some (.int .i64 x1) ∧ w'.cell? ⟨(ad.add (m * 4)).block, (ad.add (m * 4)).off + 2, none⟩ = some (.int .i64 x2) ∧ w'.cell? ⟨(ad.add (m * 4)).block, (ad.add (m * 4)).off + 3, none⟩ = some (.string x3) ∧ Below w.heap.size w w')) (by kernel_rfl) ?hS4 (fun hH0 => ?_)
          case hS4 => refine ⟨by go_keep, by go_keep, by go_keep, by go_keep, by go_keep, by go_keep, by go_keep, by go_keep, below_drew (HB.out.alloc HB.out.size _)⟩
          refine takeY (oi := { dst := some 12, op := Op.fieldAddr 117 (Operand.tmp 4) 0, type := 0, pos := "props.go:18", after := #[], guard := none }) 0 (some 12) (v := ?v0_4) rfl rfl (by kernel_rfl) (by kernel_rfl) (by kernel_rfl) (fun _ _ _ h => h) (by kernel_rfl) ?hy4 hH0 ?_
          case hy4 => (intro w_ hSw; (try dsimp only at hSw); go_simp; (first | done | with_reducible rfl | rw [if_neg (by omega)]))
          simp only [Act.put, List.setIfInBounds_toArray, List.set_cons_zero, List.set_cons_succ]
          refine takeY (oi := { dst := some 13, op := Op.load 9 (Operand.tmp 12), type := 9, pos := "props.go:18", after := #[{ on := 0, ground := Ground.data }], guard := none }) 1 (some 13) (v := ?v1_4) rfl rfl (by kernel_rfl) (by kernel_rfl) (by kernel_rfl) (fun _ _ _ h => h) (by kernel_rfl) ?hy4 hH0 ?_
          case hy4 => (intro w_ hSw; (try dsimp only at hSw); go_simp; (first | done | with_reducible rfl | rw [if_neg (by omega)]))
          simp only [Act.put, List.setIfInBounds_toArray, List.set_cons_zero, List.set_cons_succ]
          refine wpAnyH_ready (rs := [2]) (by kernel_rfl) (by simp) ?_
          refine AllReadyH.cons (o := { dst := some 14, op := Op.buildSlice 174 1 #[(0, Operand.tmp 13)], type := 174, pos := "props.go:18", after := #[{ on := 1, ground := Ground.data }], guard := none }) rfl (fun K1 hK1 => ?_) AllReadyH.nil
          go_simp
          refine hK1.out _ _ ?hS4 (fun hH1 => ?_)
          case hS4 => ((try dsimp only); (first | exact keepB8 (by assumption) (by assumption) | exact keepB8 (below_al _ _) (by assumption)))
          clear hK1 K1
          (try clear hH0)
          (try simp only [Act.put, List.setIfInBounds_toArray, List.set_cons_zero, List.set_cons_succ])
          refine wpAnyH_ready (rs := [3]) (by kernel_rfl) (by simp) ?_
          refine AllReadyH.cons (o := { dst := some 15, op := Op.call { callee := Callee.value (Operand.func 85), args := #[Operand.tmp 14], argTypes := #[174] }, type := 4, pos := "props.go:18", after := #[{ on := 2, ground := Ground.data }], guard := none }) rfl (fun K2 hK2 => ?_) AllReadyH.nil
          go_simp; refine (letter_Right_one _ 1 y0 _ ?hC4 ?hs4 true hN).mono ?_; (case hC4 => exact C_boxd Kd.string (by decide) _ _ (by simp) y0 #[.string y0] _ rfl); (case hs4 => omega); rintro e w2 ⟨rfl, hb2⟩
          refine hK2.out _ _ ?hS4 (fun hH2 => ?_)
          case hS4 => ((try dsimp only); (first | exact keepB8 (by assumption) (by assumption) | exact keepB8 (below_al _ _) (by assumption)))
          clear hK2 K2
          (try clear hH1)
          (try simp only [Act.put, List.setIfInBounds_toArray, List.set_cons_zero, List.set_cons_succ])
          refine takeY (oi := { dst := some 16, op := Op.unOp UnOp.not 4 (Operand.tmp 15), type := 4, pos := "props.go:18", after := #[{ on := 3, ground := Ground.data }], guard := none }) 4 (some 16) (v := ?v4_4) rfl rfl (by kernel_rfl) (by kernel_rfl) (by kernel_rfl) (fun _ _ _ h => h) (by kernel_rfl) ?hy4 hH2 ?_
          case hy4 => (intro w_ hSw; (try dsimp only at hSw); go_simp; (first | done | with_reducible rfl | rw [if_neg (by omega)]))
          simp only [Act.put, List.setIfInBounds_toArray, List.set_cons_zero, List.set_cons_succ]
          refine takeY (oi := { dst := some 17, op := Op.move (Operand.tmp 16), type := 4, pos := "props.go:18", after := #[{ on := 4, ground := Ground.data }, { on := 3, ground := Ground.chain }], guard := none }) 5 (some 17) (v := ?v5_4) rfl rfl (by kernel_rfl) (by kernel_rfl) (by kernel_rfl) (fun _ _ _ h => h) (by kernel_rfl) ?hy4 hH2 ?_
          case hy4 => (intro w_ hSw; (try dsimp only at hSw); go_simp; (first | done | with_reducible rfl | rw [if_neg (by omega)]))
          simp only [Act.put, List.setIfInBounds_toArray, List.set_cons_zero, List.set_cons_succ]
          refine takeY (oi := { dst := some 18, op := Op.fieldAddr 117 (Operand.tmp 4) 1, type := 0, pos := "props.go:18", after := #[{ on := 5, ground := Ground.guard }], guard := some (5, false) }) 6 (some 18) (v := ?v6_4) rfl rfl (by kernel_rfl) (by kernel_rfl) (by kernel_rfl) (fun _ _ _ h => h) (by kernel_rfl) ?hy4 hH2 ?_
          case hy4 => (intro w_ hSw; (try dsimp only at hSw); go_simp; (first | done | with_reducible rfl | rw [if_neg (by omega)]))
          simp only [Act.put, List.setIfInBounds_toArray, List.set_cons_zero, List.set_cons_succ]
          refine takeY (oi := { dst := some 19, op := Op.load 42 (Operand.tmp 18), type := 42, pos := "props.go:18", after := #[{ on := 6, ground := Ground.data }, { on := 5, ground := Ground.guard }], guard := some (5, false) }) 7 (some 19) (v := ?v7_4) rfl rfl (by kernel_rfl) (by kernel_rfl) (by kernel_rfl) (fun _ _ _ h => h) (by kernel_rfl) ?hy4 hH2 ?_
          case hy4 => (intro w_ hSw; (try dsimp only at hSw); go_simp; (first | done | with_reducible rfl | rw [if_neg (by omega)]))
          simp only [Act.put, List.setIfInBounds_toArray, List.set_cons_zero, List.set_cons_succ]
          refine wpAnyH_ready (rs := [8]) (by kernel_rfl) (by simp) ?_
          refine AllReadyH.cons (o := { dst := some 20, op := Op.buildSlice 188 1 #[(0, Operand.tmp 19)], type := 188, pos := "props.go:18", after := #[{ on := 7, ground := Ground.data }, { on := 5, ground := Ground.guard }], guard := some (5, false) }) rfl (fun K3 hK3 => ?_) AllReadyH.nil
          go_simp
          refine hK3.out _ _ ?hS4 (fun hH3 => ?_)
          case hS4 => ((try dsimp only); (first | exact keepB8 (by assumption) (by assumption) | exact keepB8 (below_al _ _) (by assumption)))
          clear hK3 K3
          (try clear hH2)
          (try simp only [Act.put, List.setIfInBounds_toArray, List.set_cons_zero, List.set_cons_succ])
          refine wpAnyH_ready (rs := [9]) (by kernel_rfl) (by simp) ?_
          refine AllReadyH.cons (o := { dst := some 21, op := Op.call { callee := Callee.value (Operand.func 116), args := #[Operand.tmp 20], argTypes := #[188] }, type := 4, pos := "props.go:18", after := #[{ on := 8, ground := Ground.data }, { on := 5, ground := Ground.chain }, { on := 5, ground := Ground.guard }], guard := some (5, false) }) rfl (fun K4 hK4 => ?_) AllReadyH.nil
          go_simp; refine (value_Right_one _ 1 ⟨y1, y2, y3⟩ _ ?hC4 true hV).mono ?_; (case hC4 => exact C_boxg kValue (by decide) _ _ (by simp) ⟨y1, y2, y3⟩ #[.int .i64 y1, .int .i64 y2, .string y3] _ (kValue_mk _ _)); rintro e w3 ⟨rfl, hb3⟩
          refine hK4.out _ _ ?hS4 (fun hH4 => ?_)
          case hS4 => ((try dsimp only); (first | exact keepB8 (by assumption) (by assumption) | exact keepB8 (below_al _ _) (by assumption)))
          clear hK4 K4
          (try clear hH3)
          (try simp only [Act.put, List.setIfInBounds_toArray, List.set_cons_zero, List.set_cons_succ])
          refine takeY (oi := { dst := some 22, op := Op.unOp UnOp.not 4 (Operand.tmp 21), type := 4, pos := "props.go:18", after := #[{ on := 9, ground := Ground.data }, { on := 5, ground := Ground.guard }], guard := some (5, false) }) 10 (some 22) (v := ?v10_4) rfl rfl (by kernel_rfl) (by kernel_rfl) (by kernel_rfl) (fun _ _ _ h => h) (by kernel_rfl) ?hy4 hH4 ?_
          case hy4 => (intro w_ hSw; (try dsimp only at hSw); go_simp; (first | done | with_reducible rfl | rw [if_neg (by omega)]))
          simp only [Act.put, List.setIfInBounds_toArray, List.set_cons_zero, List.set_cons_succ]
          refine takeY (oi := { dst := some 23, op := Op.pick (Operand.tmp 17) (Operand.const (Value.bool true)) (Operand.tmp 22), type := 4, pos := "props.go:18", after := #[{ on := 5, ground := Ground.data }, { on := 10, ground := Ground.data }], guard := none }) 11 (some 23) (v := ?v11_4) rfl rfl (by kernel_rfl) (by kernel_rfl) (by kernel_rfl) (fun _ _ _ h => h) (by kernel_rfl) ?hy4 hH4 ?_
          case hy4 => (intro w_ hSw; (try dsimp only at hSw); go_simp; (first | done | with_reducible rfl | rw [if_neg (by omega)]))
          simp only [Act.put, List.setIfInBounds_toArray, List.set_cons_zero, List.set_cons_succ]
          refine takeY (oi := { dst := some 24, op := Op.move (Operand.tmp 23), type := 4, pos := "props.go:18", after := #[{ on := 11, ground := Ground.data }, { on := 9, ground := Ground.chain }], guard := none }) 12 (some 24) (v := ?v12_4) rfl rfl (by kernel_rfl) (by kernel_rfl) (by kernel_rfl) (fun _ _ _ h => h) (by kernel_rfl) ?hy4 hH4 ?_
          case hy4 => (intro w_ hSw; (try dsimp only at hSw); go_simp; (first | done | with_reducible rfl | rw [if_neg (by omega)]))
          simp only [Act.put, List.setIfInBounds_toArray, List.set_cons_zero, List.set_cons_succ]
          refine takeY (oi := { dst := some 25, op := Op.move (Operand.tmp 3), type := 3, pos := "props.go:18", after := #[{ on := 12, ground := Ground.guard }], guard := some (12, false) }) 13 (some 25) (v := ?v13_4) rfl rfl (by kernel_rfl) (by kernel_rfl) (by kernel_rfl) (fun _ _ _ h => h) (by kernel_rfl) ?hy4 hH4 ?_
          case hy4 => (intro w_ hSw; (try dsimp only at hSw); go_simp; (first | done | with_reducible rfl | rw [if_neg (by omega)]))
          simp only [Act.put, List.setIfInBounds_toArray, List.set_cons_zero, List.set_cons_succ]
          refine takeY (oi := { dst := some 26, op := Op.binOp BinOp.gtr 3 (Operand.tmp 25) (Operand.const (Value.int IntKind.i64 0)) 3, type := 4, pos := "props.go:18", after := #[{ on := 13, ground := Ground.data }, { on := 12, ground := Ground.guard }], guard := some (12, false) }) 14 (some 26) (v := ?v14_4) rfl rfl (by kernel_rfl) (by kernel_rfl) (by kernel_rfl) (fun _ _ _ h => h) (by kernel_rfl) ?hy4 hH4 ?_
          case hy4 => (intro w_ hSw; (try dsimp only at hSw); go_simp; (first | done | with_reducible rfl | rw [if_neg (by omega)]))
          simp only [Act.put, List.setIfInBounds_toArray, List.set_cons_zero, List.set_cons_succ]
          refine takeY (oi := { dst := some 27, op := Op.move (Operand.tmp 26), type := 4, pos := "props.go:18", after := #[{ on := 14, ground := Ground.data }, { on := 12, ground := Ground.chain }, { on := 12, ground := Ground.guard }], guard := some (12, false) }) 15 (some 27) (v := ?v15_4) rfl rfl (by kernel_rfl) (by kernel_rfl) (by kernel_rfl) (fun _ _ _ h => h) (by kernel_rfl) ?hy4 hH4 ?_
          case hy4 => (intro w_ hSw; (try dsimp only at hSw); go_simp; (first | done | with_reducible rfl | rw [if_neg (by omega)]))
          simp only [Act.put, List.setIfInBounds_toArray, List.set_cons_zero, List.set_cons_succ]
          refine takeY (oi := { dst := some 28, op := Op.move (Operand.tmp 0), type := 22, pos := "props.go:18", after := #[{ on := 15, ground := Ground.guard }], guard := some (15, true) }) 16 (some 28) (v := ?v16_4) rfl rfl (by kernel_rfl) (by kernel_rfl) (by kernel_rfl) (fun _ _ _ h => h) (by kernel_rfl) ?hy4 hH4 ?_
          case hy4 => (intro w_ hSw; (try dsimp only at hSw); go_simp; (first | done | with_reducible rfl | rw [if_neg (by omega)]))
          simp only [Act.put, List.setIfInBounds_toArray, List.set_cons_zero, List.set_cons_succ]
          refine takeY (oi := { dst := some 29, op := Op.move (Operand.tmp 3), type := 3, pos := "props.go:18", after := #[{ on := 15, ground := Ground.guard }], guard := some (15, true) }) 17 (some 29) (v := ?v17_4) rfl rfl (by kernel_rfl) (by kernel_rfl) (by kernel_rfl) (fun _ _ _ h => h) (by kernel_rfl) ?hy4 hH4 ?_
          case hy4 => (intro w_ hSw; (try dsimp only at hSw); go_simp; (first | done | with_reducible rfl | rw [if_neg (by omega)]))
          simp only [Act.put, List.setIfInBounds_toArray, List.set_cons_zero, List.set_cons_succ]
          refine takeY (oi := { dst := some 30, op := Op.binOp BinOp.sub 3 (Operand.tmp 29) (Operand.const (Value.int IntKind.i64 1)) 3, type := 3, pos := "props.go:18", after := #[{ on := 17, ground := Ground.data }, { on := 15, ground := Ground.guard }], guard := some (15, true) }) 18 (some 30) (v := ?v18_4) rfl rfl (by kernel_rfl) (by kernel_rfl) (by kernel_rfl) (fun _ _ _ h => h) (by kernel_rfl) ?hy4 hH4 ?_
          case hy4 => (intro w_ hSw; (try dsimp only at hSw); go_simp; (first | done | with_reducible rfl | rw [if_neg (by omega)]))
          simp only [Act.put, List.setIfInBounds_toArray, List.set_cons_zero, List.set_cons_succ]
          refine takeY (oi := { dst := some 31, op := Op.indexAddr 22 (Operand.tmp 28) (Operand.tmp 30), type := 0, pos := "props.go:18", after := #[{ on := 16, ground := Ground.data }, { on := 18, ground := Ground.data }, { on := 15, ground := Ground.guard }], guard := some (15, true) }) 19 (some 31) (v := ?v19_4) rfl rfl (by kernel_rfl) (by kernel_rfl) (by kernel_rfl) (fun _ _ _ h => h) (by kernel_rfl) ?hy4 hH4 ?_
          case hy4 => (intro w_ hSw; (try dsimp only at hSw); go_simp; (first | done | with_reducible rfl | rw [if_neg (by omega)]))
          simp only [Act.put, List.setIfInBounds_toArray, List.set_cons_zero, List.set_cons_succ]
          refine takeY (oi := { dst := some 32, op := Op.load 117 (Operand.tmp 31), type := 117, pos := "props.go:18", after := #[{ on := 19, ground := Ground.data }, { on := 15, ground := Ground.guard }], guard := some (15, true) }) 20 (some 32) (v := ?v20_4) rfl rfl (by kernel_rfl) (by kernel_rfl) (by kernel_rfl) (fun _ _ _ h => h) (by kernel_rfl) ?hy4 hH4 ?_
          case hy4 => (intro w_ hSw; (try dsimp only at hSw); go_simp; (first | done | with_reducible rfl | rw [if_neg (by omega)]))
          simp only [Act.put, List.setIfInBounds_toArray, List.set_cons_zero, List.set_cons_succ]
          refine takeY (oi := { dst := some 33, op := Op.fieldAddr 117 (Operand.tmp 4) 0, type := 0, pos := "props.go:18", after := #[{ on := 15, ground := Ground.guard }], guard := some (15, true) }) 21 (some 33) (v := ?v21_4) rfl rfl (by kernel_rfl) (by kernel_rfl) (by kernel_rfl) (fun _ _ _ h => h) (by kernel_rfl) ?hy4 hH4 ?_
          case hy4 => (intro w_ hSw; (try dsimp only at hSw); go_simp; (first | done | with_reducible rfl | rw [if_neg (by omega)]))
          simp only [Act.put, List.setIfInBounds_toArray, List.set_cons_zero, List.set_cons_succ]
          refine takeY (oi := { dst := some 34, op := Op.load 9 (Operand.tmp 33), type := 9, pos := "props.go:18", after := #[{ on := 21, ground := Ground.data }, { on := 15, ground := Ground.guard }], guard := some (15, true) }) 22 (some 34) (v := ?v22_4) rfl rfl (by kernel_rfl) (by kernel_rfl) (by kernel_rfl) (fun _ _ _ h => h) (by kernel_rfl) ?hy4 hH4 ?_
          case hy4 => (intro w_ hSw; (try dsimp only at hSw); go_simp; (first | done | with_reducible rfl | rw [if_neg (by omega)]))
          simp only [Act.put, List.setIfInBounds_toArray, List.set_cons_zero, List.set_cons_succ]
          refine wpAnyH_ready (rs := [23]) (by kernel_rfl) (by simp) ?_
          refine AllReadyH.cons (o := { dst := some 35, op := Op.call { callee := Callee.value (Operand.func 117), args := #[Operand.tmp 32, Operand.tmp 34], argTypes := #[117, 9] }, type := 3, pos := "props.go:18", after := #[{ on := 20, ground := Ground.data }, { on := 22, ground := Ground.data }, { on := 15, ground := Ground.chain }, { on := 15, ground := Ground.guard }], guard := some (15, true) }) rfl (fun K5 hK5 => ?_) AllReadyH.nil
          go_simp; refine (props_by_calls _ _ _ _ _ _ (by omega) (by omega)).mono ?_; rintro e w4 ⟨rfl, hb4⟩
          refine hK5.out _ _ ?hS4 (fun hH5 => ?_)
          case hS4 => ((try dsimp only); (first | exact keepB8 (by assumption) (by assumption) | exact keepB8 (below_al _ _) (by assumption)))
          clear hK5 K5
          (try clear hH4)
          (try simp only [Act.put, List.setIfInBounds_toArray, List.set_cons_zero, List.set_cons_succ])
          refine takeY (oi := { dst := some 36, op := Op.binOp BinOp.geq 3 (Operand.tmp 35) (Operand.const (Value.int IntKind.i64 0)) 3, type := 4, pos := "props.go:18", after := #[{ on := 23, ground := Ground.data }, { on := 15, ground := Ground.guard }], guard := some (15, true) }) 24 (some 36) (v := ?v24_4) rfl rfl (by kernel_rfl) (by kernel_rfl) (by kernel_rfl) (fun _ _ _ h => h) (by kernel_rfl) ?hy4 hH5 ?_
          case hy4 => (intro w_ hSw; (try dsimp only at hSw); go_simp; (first | done | with_reducible rfl | rw [if_neg (by omega)]))
          simp only [Act.put, List.setIfInBounds_toArray, List.set_cons_zero, List.set_cons_succ]
          refine takeY (oi := { dst := some 37, op := Op.pick (Operand.tmp 27) (Operand.tmp 36) (Operand.const (Value.bool false)), type := 4, pos := "props.go:18", after := #[{ on := 15, ground := Ground.data }, { on := 24, ground := Ground.data }, { on := 12, ground := Ground.guard }], guard := some (12, false) }) 25 (some 37) (v := ?v25_4) rfl rfl (by kernel_rfl) (by kernel_rfl) (by kernel_rfl) (fun _ _ _ h => h) (by kernel_rfl) ?hy4 hH5 ?_
          case hy4 => (intro w_ hSw; (try dsimp only at hSw); go_simp; (first | done | with_reducible rfl | rw [if_neg (by omega)]))
          simp only [Act.put, List.setIfInBounds_toArray, List.set_cons_zero, List.set_cons_succ]
          refine takeY (oi := { dst := some 38, op := Op.pick (Operand.tmp 24) (Operand.const (Value.bool true)) (Operand.tmp 37), type := 4, pos := "props.go:18", after := #[{ on := 12, ground := Ground.data }, { on := 25, ground := Ground.data }], guard := none }) 26 (some 38) (v := ?v26_4) rfl rfl (by kernel_rfl) (by kernel_rfl) (by kernel_rfl) (fun _ _ _ h => h) (by kernel_rfl) ?hy4 hH5 ?_
          case hy4 => (intro w_ hSw; (try dsimp only at hSw); go_simp; (first | done | with_reducible rfl | rw [if_neg (by omega)]))
          simp only [Act.put, List.setIfInBounds_toArray, List.set_cons_zero, List.set_cons_succ]
          refine wpAnyH_done (by kernel_rfl) ?_ _
          have hEnd := hH5
          clear hH5
          have HB2 := Lib.hid (hEnd.2.2.2.2.2.2.2.2)
          go_wp2
          go_roundw
          case rel => exact ⟨m + 1 + 1, by omega, by go_num, HB2, Lib.hid (by rw [← HS2.out]; exact HI.out)⟩
          case measure => simp [intOf]; omega
        · have HE := Lib.hid (propsRight_no (by rw [← HI.out, HS.out, hN, hV, HP.out]; simp [hC]))
          go_wp2_with fail
          refine wp_region_held_drew (S := (fun w' => w'.cell? ⟨wr.heap.size, 0, none⟩ = some (.string y0) ∧ w'.cell? ⟨wr.heap.size, 1, none⟩ = some (.int .i64 y1) ∧ w'.cell? ⟨wr.heap.size, 2, none⟩ = some (.int .i64 y2) ∧ w'.cell? ⟨wr.heap.size, 3, none⟩ = some (.string y3) ∧ w'.cell? (ad.add (m * 4)) = some (.string x0) ∧ w'.cell? ⟨(ad.add (m * 4)).block, (ad.add (m * 4)).off + 1, none⟩ = some (.int .i64 x1) ∧ w'.cell? ⟨(ad.add (m * 4)).block, (ad.add (m * 4)).off + 2, none⟩ = some (.int .i64 x2) ∧ w'.cell? ⟨(ad.add (m * 4)).block, (ad.add (m * 4)).off + 3, none⟩ = some (.string x3) ∧ Below w.heap.size w w')) (by kernel_rfl) ?hS5 (fun hH0 => ?_)
          case hS5 => refine ⟨by go_keep, by go_keep, by go_keep, by go_keep, by go_keep, by go_keep, by go_keep, by go_keep, below_drew (HB.out.alloc HB.out.size _)⟩
          refine takeY (oi := { dst := some 12, op := Op.fieldAddr 117 (Operand.tmp 4) 0, type := 0, pos := "props.go:18", after := #[], guard := none }) 0 (some 12) (v := ?v0_5) rfl rfl (by kernel_rfl) (by kernel_rfl) (by kernel_rfl) (fun _ _ _ h => h) (by kernel_rfl) ?hy5 hH0 ?_
          case hy5 => (intro w_ hSw; (try dsimp only at hSw); go_simp; (first | done | with_reducible rfl | rw [if_neg (by omega)]))
          simp only [Act.put, List.setIfInBounds_toArray, List.set_cons_zero, List.set_cons_succ]
          refine takeY (oi := { dst := some 13, op := Op.load 9 (Operand.tmp 12), type := 9, pos := "props.go:18", after := #[{ on := 0, ground := Ground.data }], guard := none }) 1 (some 13) (v := ?v1_5) rfl rfl (by kernel_rfl) (by kernel_rfl) (by kernel_rfl) (fun _ _ _ h => h) (by kernel_rfl) ?hy5 hH0 ?_
          case hy5 => (intro w_ hSw; (try dsimp only at hSw); go_simp; (first | done | with_reducible rfl | rw [if_neg (by omega)]))
          simp only [Act.put, List.setIfInBounds_toArray, List.set_cons_zero, List.set_cons_succ]
          refine wpAnyH_ready (rs := [2]) (by kernel_rfl) (by simp) ?_
          refine AllReadyH.cons (o := { dst := some 14, op := Op.buildSlice 174 1 #[(0, Operand.tmp 13)], type := 174, pos := "props.go:18", after := #[{ on := 1, ground := Ground.data }], guard := none }) rfl (fun K1 hK1 => ?_) AllReadyH.nil
          go_simp
          refine hK1.out _ _ ?hS5 (fun hH1 => ?_)
          case hS5 => ((try dsimp only); (first | exact keepB8 (by assumption) (by assumption) | exact keepB8 (below_al _ _) (by assumption)))
          clear hK1 K1
          (try clear hH0)
          (try simp only [Act.put, List.setIfInBounds_toArray, List.set_cons_zero, List.set_cons_succ])
          refine wpAnyH_ready (rs := [3]) (by kernel_rfl) (by simp) ?_
          refine AllReadyH.cons (o := { dst := some 15, op := Op.call { callee := Callee.value (Operand.func 85), args := #[Operand.tmp 14], argTypes := #[174] }, type := 4, pos := "props.go:18", after := #[{ on := 2, ground := Ground.data }], guard := none }) rfl (fun K2 hK2 => ?_) AllReadyH.nil
          go_simp; refine (letter_Right_one _ 1 y0 _ ?hC5 ?hs5 true hN).mono ?_; (case hC5 => exact C_boxd Kd.string (by decide) _ _ (by simp) y0 #[.string y0] _ rfl); (case hs5 => omega); rintro e w2 ⟨rfl, hb2⟩
          refine hK2.out _ _ ?hS5 (fun hH2 => ?_)
          case hS5 => ((try dsimp only); (first | exact keepB8 (by assumption) (by assumption) | exact keepB8 (below_al _ _) (by assumption)))
          clear hK2 K2
          (try clear hH1)
          (try simp only [Act.put, List.setIfInBounds_toArray, List.set_cons_zero, List.set_cons_succ])
          refine takeY (oi := { dst := some 16, op := Op.unOp UnOp.not 4 (Operand.tmp 15), type := 4, pos := "props.go:18", after := #[{ on := 3, ground := Ground.data }], guard := none }) 4 (some 16) (v := ?v4_5) rfl rfl (by kernel_rfl) (by kernel_rfl) (by kernel_rfl) (fun _ _ _ h => h) (by kernel_rfl) ?hy5 hH2 ?_
          case hy5 => (intro w_ hSw; (try dsimp only at hSw); go_simp; (first | done | with_reducible rfl | rw [if_neg (by omega)]))
          simp only [Act.put, List.setIfInBounds_toArray, List.set_cons_zero, List.set_cons_succ]
          refine takeY (oi := { dst := some 17, op := Op.move (Operand.tmp 16), type := 4, pos := "props.go:18", after := #[{ on := 4, ground := Ground.data }, { on := 3, ground := Ground.chain }], guard := none }) 5 (some 17) (v := ?v5_5) rfl rfl (by kernel_rfl) (by kernel_rfl) (by kernel_rfl) (fun _ _ _ h => h) (by kernel_rfl) ?hy5 hH2 ?_
          case hy5 => (intro w_ hSw; (try dsimp only at hSw); go_simp; (first | done | with_reducible rfl | rw [if_neg (by omega)]))
          simp only [Act.put, List.setIfInBounds_toArray, List.set_cons_zero, List.set_cons_succ]
          refine takeY (oi := { dst := some 18, op := Op.fieldAddr 117 (Operand.tmp 4) 1, type := 0, pos := "props.go:18", after := #[{ on := 5, ground := Ground.guard }], guard := some (5, false) }) 6 (some 18) (v := ?v6_5) rfl rfl (by kernel_rfl) (by kernel_rfl) (by kernel_rfl) (fun _ _ _ h => h) (by kernel_rfl) ?hy5 hH2 ?_
          case hy5 => (intro w_ hSw; (try dsimp only at hSw); go_simp; (first | done | with_reducible rfl | rw [if_neg (by omega)]))
          simp only [Act.put, List.setIfInBounds_toArray, List.set_cons_zero, List.set_cons_succ]
          refine takeY (oi := { dst := some 19, op := Op.load 42 (Operand.tmp 18), type := 42, pos := "props.go:18", after := #[{ on := 6, ground := Ground.data }, { on := 5, ground := Ground.guard }], guard := some (5, false) }) 7 (some 19) (v := ?v7_5) rfl rfl (by kernel_rfl) (by kernel_rfl) (by kernel_rfl) (fun _ _ _ h => h) (by kernel_rfl) ?hy5 hH2 ?_
          case hy5 => (intro w_ hSw; (try dsimp only at hSw); go_simp; (first | done | with_reducible rfl | rw [if_neg (by omega)]))
          simp only [Act.put, List.setIfInBounds_toArray, List.set_cons_zero, List.set_cons_succ]
          refine wpAnyH_ready (rs := [8]) (by kernel_rfl) (by simp) ?_
          refine AllReadyH.cons (o := { dst := some 20, op := Op.buildSlice 188 1 #[(0, Operand.tmp 19)], type := 188, pos := "props.go:18", after := #[{ on := 7, ground := Ground.data }, { on := 5, ground := Ground.guard }], guard := some (5, false) }) rfl (fun K3 hK3 => ?_) AllReadyH.nil
          go_simp
          refine hK3.out _ _ ?hS5 (fun hH3 => ?_)
          case hS5 => ((try dsimp only); (first | exact keepB8 (by assumption) (by assumption) | exact keepB8 (below_al _ _) (by assumption)))
          clear hK3 K3
          (try clear hH2)
          (try simp only [Act.put, List.setIfInBounds_toArray, List.set_cons_zero, List.set_cons_succ])
          refine wpAnyH_ready (rs := [9]) (by kernel_rfl) (by simp) ?_
          refine AllReadyH.cons (o := { dst := some 21, op := Op.call { callee := Callee.value (Operand.func 116), args := #[Operand.tmp 20], argTypes := #[188] }, type := 4, pos := "props.go:18", after := #[{ on := 8, ground := Ground.data }, { on := 5, ground := Ground.chain }, { on := 5, ground := Ground.guard }], guard := some (5, false) }) rfl (fun K4 hK4 => ?_) AllReadyH.nil
          go_simp; refine (value_Right_one _ 1 ⟨y1, y2, y3⟩ _ ?hC5 true hV).mono ?_; (case hC5 => exact C_boxg kValue (by decide) _ _ (by simp) ⟨y1, y2, y3⟩ #[.int .i64 y1, .int .i64 y2, .string y3] _ (kValue_mk _ _)); rintro e w3 ⟨rfl, hb3⟩
          refine hK4.out _ _ ?hS5 (fun hH4 => ?_)
          case hS5 => ((try dsimp only); (first | exact keepB8 (by assumption) (by assumption) | exact keepB8 (below_al _ _) (by assumption)))
          clear hK4 K4
          (try clear hH3)
          (try simp only [Act.put, List.setIfInBounds_toArray, List.set_cons_zero, List.set_cons_succ])
          refine takeY (oi := { dst := some 22, op := Op.unOp UnOp.not 4 (Operand.tmp 21), type := 4, pos := "props.go:18", after := #[{ on := 9, ground := Ground.data }, { on := 5, ground := Ground.guard }], guard := some (5, false) }) 10 (some 22) (v := ?v10_5) rfl rfl (by kernel_rfl) (by kernel_rfl) (by kernel_rfl) (fun _ _ _ h => h) (by kernel_rfl) ?hy5 hH4 ?_
          case hy5 => (intro w_ hSw; (try dsimp only at hSw); go_simp; (first | done | with_reducible rfl | rw [if_neg (by omega)]))
          simp only [Act.put, List.setIfInBounds_toArray, List.set_cons_zero, List.set_cons_succ]
          refine takeY (oi := { dst := some 23, op := Op.pick (Operand.tmp 17) (Operand.const (Value.bool true)) (Operand.tmp 22), type := 4, pos := "props.go:18", after := #[{ on := 5, ground := Ground.data }, { on := 10, ground := Ground.data }], guard := none }) 11 (some 23) (v := ?v11_5) rfl rfl (by kernel_rfl) (by kernel_rfl) (by kernel_rfl) (fun _ _ _ h => h) (by kernel_rfl) ?hy5 hH4 ?_
          case hy5 => (intro w_ hSw; (try dsimp only at hSw); go_simp; (first | done | with_reducible rfl | rw [if_neg (by omega)]))
          simp only [Act.put, List.setIfInBounds_toArray, List.set_cons_zero, List.set_cons_succ]
          refine takeY (oi := { dst := some 24, op := Op.move (Operand.tmp 23), type := 4, pos := "props.go:18", after := #[{ on := 11, ground := Ground.data }, { on := 9, ground := Ground.chain }], guard := none }) 12 (some 24) (v := ?v12_5) rfl rfl (by kernel_rfl) (by kernel_rfl) (by kernel_rfl) (fun _ _ _ h => h) (by kernel_rfl) ?hy5 hH4 ?_
          case hy5 => (intro w_ hSw; (try dsimp only at hSw); go_simp; (first | done | with_reducible rfl | rw [if_neg (by omega)]))
          simp only [Act.put, List.setIfInBounds_toArray, List.set_cons_zero, List.set_cons_succ]
          refine takeY (oi := { dst := some 25, op := Op.move (Operand.tmp 3), type := 3, pos := "props.go:18", after := #[{ on := 12, ground := Ground.guard }], guard := some (12, false) }) 13 (some 25) (v := ?v13_5) rfl rfl (by kernel_rfl) (by kernel_rfl) (by kernel_rfl) (fun _ _ _ h => h) (by kernel_rfl) ?hy5 hH4 ?_
          case hy5 => (intro w_ hSw; (try dsimp only at hSw); go_simp; (first | done | with_reducible rfl | rw [if_neg (by omega)]))
          simp only [Act.put, List.setIfInBounds_toArray, List.set_cons_zero, List.set_cons_succ]
          refine takeY (oi := { dst := some 26, op := Op.binOp BinOp.gtr 3 (Operand.tmp 25) (Operand.const (Value.int IntKind.i64 0)) 3, type := 4, pos := "props.go:18", after := #[{ on := 13, ground := Ground.data }, { on := 12, ground := Ground.guard }], guard := some (12, false) }) 14 (some 26) (v := ?v14_5) rfl rfl (by kernel_rfl) (by kernel_rfl) (by kernel_rfl) (fun _ _ _ h => h) (by kernel_rfl) ?hy5 hH4 ?_
          case hy5 => (intro w_ hSw; (try dsimp only at hSw); go_simp; (first | done | with_reducible rfl | rw [if_neg (by omega)]))
          simp only [Act.put, List.setIfInBounds_toArray, List.set_cons_zero, List.set_cons_succ]
          refine takeY (oi := { dst := some 27, op := Op.move (Operand.tmp 26), type := 4, pos := "props.go:18", after := #[{ on := 14, ground := Ground.data }, { on := 12, ground := Ground.chain }, { on := 12, ground := Ground.guard }], guard := some (12, false) }) 15 (some 27) (v := ?v15_5) rfl rfl (by kernel_rfl) (by kernel_rfl) (by kernel_rfl) (fun _ _ _ h => h) (by kernel_rfl) ?hy5 hH4 ?_
          case hy5 => (intro w_ hSw; (try dsimp only at hSw); go_simp; (first | done | with_reducible rfl | rw [if_neg (by omega)]))
          simp only [Act.put, List.setIfInBounds_toArray, List.set_cons_zero, List.set_cons_succ]
          refine takeY (oi := { dst := some 28, op := Op.move (Operand.tmp 0), type := 22, pos := "props.go:18", after := #[{ on := 15, ground := Ground.guard }], guard := some (15, true) }) 16 (some 28) (v := ?v16_5) rfl rfl (by kernel_rfl) (by kernel_rfl) (by kernel_rfl) (fun _ _ _ h => h) (by kernel_rfl) ?hy5 hH4 ?_
          case hy5 => (intro w_ hSw; (try dsimp only at hSw); go_simp; (first | done | with_reducible rfl | rw [if_neg (by omega)]))
          simp only [Act.put, List.setIfInBounds_toArray, List.set_cons_zero, List.set_cons_succ]
          refine takeY (oi := { dst := some 29, op := Op.move (Operand.tmp 3), type := 3, pos := "props.go:18", after := #[{ on := 15, ground := Ground.guard }], guard := some (15, true) }) 17 (some 29) (v := ?v17_5) rfl rfl (by kernel_rfl) (by kernel_rfl) (by kernel_rfl) (fun _ _ _ h => h) (by kernel_rfl) ?hy5 hH4 ?_
          case hy5 => (intro w_ hSw; (try dsimp only at hSw); go_simp; (first | done | with_reducible rfl | rw [if_neg (by omega)]))
          simp only [Act.put, List.setIfInBounds_toArray, List.set_cons_zero, List.set_cons_succ]
          refine takeY (oi := { dst := some 30, op := Op.binOp BinOp.sub 3 (Operand.tmp 29) (Operand.const (Value.int IntKind.i64 1)) 3, type := 3, pos := "props.go:18", after := #[{ on := 17, ground := Ground.data }, { on := 15, ground := Ground.guard }], guard := some (15, true) }) 18 (some 30) (v := ?v18_5) rfl rfl (by kernel_rfl) (by kernel_rfl) (by kernel_rfl) (fun _ _ _ h => h) (by kernel_rfl) ?hy5 hH4 ?_
          case hy5 => (intro w_ hSw; (try dsimp only at hSw); go_simp; (first | done | with_reducible rfl | rw [if_neg (by omega)]))
          simp only [Act.put, List.setIfInBounds_toArray, List.set_cons_zero, List.set_cons_succ]
          refine takeY (oi := { dst := some 31, op := Op.indexAddr 22 (Operand.tmp 28) (Operand.tmp 30), type := 0, pos := "props.go:18", after := #[{ on := 16, ground := Ground.data }, { on := 18, ground := Ground.data }, { on := 15, ground := Ground.guard }], guard := some (15, true) }) 19 (some 31) (v := ?v19_5) rfl rfl (by kernel_rfl) (by kernel_rfl) (by kernel_rfl) (fun _ _ _ h => h) (by kernel_rfl) ?hy5 hH4 ?_
          case hy5 => (intro w_ hSw; (try dsimp only at hSw); go_simp; (first | done | with_reducible rfl | rw [if_neg (by omega)]))
          simp only [Act.put, List.setIfInBounds_toArray, List.set_cons_zero, List.set_cons_succ]
          refine takeY (oi := { dst := some 32, op := Op.load 117 (Operand.tmp 31), type := 117, pos := "props.go:18", after := #[{ on := 19, ground := Ground.data }, { on := 15, ground := Ground.guard }], guard := some (15, true) }) 20 (some 32) (v := ?v20_5) rfl rfl (by kernel_rfl) (by kernel_rfl) (by kernel_rfl) (fun _ _ _ h => h) (by kernel_rfl) ?hy5 hH4 ?_
          case hy5 => (intro w_ hSw; (try dsimp only at hSw); go_simp; (first | done | with_reducible rfl | rw [if_neg (by omega)]))
          simp only [Act.put, List.setIfInBounds_toArray, List.set_cons_zero, List.set_cons_succ]
          refine takeY (oi := { dst := some 33, op := Op.fieldAddr 117 (Operand.tmp 4) 0, type := 0, pos := "props.go:18", after := #[{ on := 15, ground := Ground.guard }], guard := some (15, true) }) 21 (some 33) (v := ?v21_5) rfl rfl (by kernel_rfl) (by kernel_rfl) (by kernel_rfl) (fun _ _ _ h => h) (by kernel_rfl) ?hy5 hH4 ?_
          case hy5 => (intro w_ hSw; (try dsimp only at hSw); go_simp; (first | done | with_reducible rfl | rw [if_neg (by omega)]))
          simp only [Act.put, List.setIfInBounds_toArray, List.set_cons_zero, List.set_cons_succ]
          refine takeY (oi := { dst := some 34, op := Op.load 9 (Operand.tmp 33), type := 9, pos := "props.go:18", after := #[{ on := 21, ground := Ground.data }, { on := 15, ground := Ground.guard }], guard := some (15, true) }) 22 (some 34) (v := ?v22_5) rfl rfl (by kernel_rfl) (by kernel_rfl) (by kernel_rfl) (fun _ _ _ h => h) (by kernel_rfl) ?hy5 hH4 ?_
          case hy5 => (intro w_ hSw; (try dsimp only at hSw); go_simp; (first | done | with_reducible rfl | rw [if_neg (by omega)]))
          simp only [Act.put, List.setIfInBounds_toArray, List.set_cons_zero, List.set_cons_succ]
          refine wpAnyH_ready (rs := [23]) (by kernel_rfl) (by simp) ?_
          refine AllReadyH.cons (o := { dst := some 35, op := Op.call { callee := Callee.value (Operand.func 117), args := #[Operand.tmp 32, Operand.tmp 34], argTypes := #[117, 9] }, type := 3, pos := "props.go:18", after := #[{ on := 20, ground := Ground.data }, { on := 22, ground := Ground.data }, { on := 15, ground := Ground.chain }, { on := 15, ground := Ground.guard }], guard := some (15, true) }) rfl (fun K5 hK5 => ?_) AllReadyH.nil
          go_simp; refine (props_by_calls _ _ _ _ _ _ (by omega) (by omega)).mono ?_; rintro e w4 ⟨rfl, hb4⟩
          refine hK5.out _ _ ?hS5 (fun hH5 => ?_)
          case hS5 => ((try dsimp only); (first | exact keepB8 (by assumption) (by assumption) | exact keepB8 (below_al _ _) (by assumption)))
          clear hK5 K5
          (try clear hH4)
          (try simp only [Act.put, List.setIfInBounds_toArray, List.set_cons_zero, List.set_cons_succ])
          refine takeY (oi := { dst := some 36, op := Op.binOp BinOp.geq 3 (Operand.tmp 35) (Operand.const (Value.int IntKind.i64 0)) 3, type := 4, pos := "props.go:18", after := #[{ on := 23, ground := Ground.data }, { on := 15, ground := Ground.guard }], guard := some (15, true) }) 24 (some 36) (v := ?v24_5) rfl rfl (by kernel_rfl) (by kernel_rfl) (by kernel_rfl) (fun _ _ _ h => h) (by kernel_rfl) ?hy5 hH5 ?_
          case hy5 => (intro w_ hSw; (try dsimp only at hSw); go_simp; (first | done | with_reducible rfl | rw [if_neg (by omega)]))
          simp only [Act.put, List.setIfInBounds_toArray, List.set_cons_zero, List.set_cons_succ]
          refine takeY (oi := { dst := some 37, op := Op.pick (Operand.tmp 27) (Operand.tmp 36) (Operand.const (Value.bool false)), type := 4, pos := "props.go:18", after := #[{ on := 15, ground := Ground.data }, { on := 24, ground := Ground.data }, { on := 12, ground := Ground.guard }], guard := some (12, false) }) 25 (some 37) (v := ?v25_5) rfl rfl (by kernel_rfl) (by kernel_rfl) (by kernel_rfl) (fun _ _ _ h => h) (by kernel_rfl) ?hy5 hH5 ?_
          case hy5 => (intro w_ hSw; (try dsimp only at hSw); go_simp; (first | done | with_reducible rfl | rw [if_neg (by omega)]))
          simp only [Act.put, List.setIfInBounds_toArray, List.set_cons_zero, List.set_cons_succ]
          refine takeY (oi := { dst := some 38, op := Op.pick (Operand.tmp 24) (Operand.const (Value.bool true)) (Operand.tmp 37), type := 4, pos := "props.go:18", after := #[{ on := 12, ground := Ground.data }, { on := 25, ground := Ground.data }], guard := none }) 26 (some 38) (v := ?v26_5) rfl rfl (by kernel_rfl) (by kernel_rfl) (by kernel_rfl) (fun _ _ _ h => h) (by kernel_rfl) ?hy5 hH5 ?_
          case hy5 => (intro w_ hSw; (try dsimp only at hSw); go_simp; (first | done | with_reducible rfl | rw [if_neg (by omega)]))
          simp only [Act.put, List.setIfInBounds_toArray, List.set_cons_zero, List.set_cons_succ]
          refine wpAnyH_done (by kernel_rfl) ?_ _
          have hEnd := hH5
          clear hH5
          have HB2 := Lib.hid (hEnd.2.2.2.2.2.2.2.2)
          go_wp2
          go_ret
          exact ⟨ret_bool HE.out.symm, HB2.out⟩
    · have hlt2 : ¬ (k : Int) < (l.length : Int) := by omega
      go_wp2
      go_ret
      refine ⟨ret_bool ?_, HB.out⟩
      have := HI.out
      rw [List.drop_eq_nil_of_le (by omega)] at this
      unfold propsRight
      rw [← this, propsFrom, Bool.true_and, Bool.eq_iff_iff]
      simp
      omega
end Go.Proofs.Ytonbnlfijmapfaa
/- Plain: which properties bytes begin with. No condition. -/
namespace Go.Proofs.Ytonbnlfijmapfaa
open Go Go.Proofs.YtonbnlfijmapfaaW.PrintWords

def keyLen (b : List Int) (a : Nat) : Nat := (b.getD a 0).toNat
def keyAt (b : List Int) (a : Nat) : ByteArray := strOfNums ((b.drop (a + 1)).take (keyLen b a))
def orderBad (out : List SPrp) (key : ByteArray) : Bool := match out.getLast? with | none => false | some p => decide (0 ≤ cmpS p.f0 key)
/-- Properties, so many still to come, from a place on. -/
def tpGo (b : List Int) : Nat → List SPrp → Nat → List SPrp × Int × Int
  | 0, out, a => (out, a, 0)
  | n + 1, out, a =>
    if b.length < a + 1 + keyLen b a ∨ b.length ≤ a then ([], 0, 20)
    else if nameRight (keyAt b a) = false ∨ orderBad out (keyAt b a) = true then ([], 0, 30)
    else if (takeV (b.drop (a + 1 + keyLen b a))).2.2 = 0 then tpGo b n (out ++ [⟨keyAt b a, (takeV (b.drop (a + 1 + keyLen b a))).1⟩]) (a + 1 + keyLen b a + (takeV (b.drop (a + 1 + keyLen b a))).2.1.toNat)
    else ([], 0, (takeV (b.drop (a + 1 + keyLen b a))).2.2)
def takeP (b : List Int) : List SPrp × Int × Int := match b with | [] => ([], 0, 20) | x :: _ => if 16 < x then ([], 0, 10) else tpGo b x.toNat [] 1

section
variable {b : List Int} {n : Nat} {out : List SPrp} {a : Nat}
theorem tpGo_short (h : b.length < a + 1 + keyLen b a ∨ b.length ≤ a) : tpGo b (n + 1) out a = ([], 0, 20) := by rw [tpGo, if_pos h]
theorem tpGo_name (h : ¬ (b.length < a + 1 + keyLen b a ∨ b.length ≤ a)) (h2 : nameRight (keyAt b a) = false ∨ orderBad out (keyAt b a) = true) : tpGo b (n + 1) out a = ([], 0, 30) := by rw [tpGo, if_neg h, if_pos h2]
theorem tpGo_bad (h : ¬ (b.length < a + 1 + keyLen b a ∨ b.length ≤ a)) (h2 : ¬ (nameRight (keyAt b a) = false ∨ orderBad out (keyAt b a) = true)) {v : SValue} {m e : Int} (hr : takeV (b.drop (a + 1 + keyLen b a)) = (v, m, e)) (he : ¬ e = 0) :
    tpGo b (n + 1) out a = ([], 0, e) := by
  rw [tpGo, if_neg h, if_neg h2, hr, if_neg he]
theorem tpGo_step (h : ¬ (b.length < a + 1 + keyLen b a ∨ b.length ≤ a)) (h2 : ¬ (nameRight (keyAt b a) = false ∨ orderBad out (keyAt b a) = true)) {v : SValue} {m : Int} (hr : takeV (b.drop (a + 1 + keyLen b a)) = (v, m, 0)) :
    tpGo b (n + 1) out a = tpGo b n (out ++ [⟨keyAt b a, v⟩]) (a + 1 + keyLen b a + m.toNat) := by
  rw [tpGo, if_neg h, if_neg h2, hr, if_pos rfl]
end
theorem txGo_ok : ∀ (n : Nat) (l acc : List Int) (a : Int), l.length ≤ n → (txGo l acc a).2.2 = 0 → acc.length ≤ 200 → a + 2 ≤ (txGo l acc a).2.1 ∧ (txGo l acc a).2.1 ≤ a + l.length ∧ (txGo l acc a).1.f0 = 2 ∧ (txGo l acc a).1.f1 = 0 ∧ (txGo l acc a).1.f2.size ≤ 200
  | 0, [], acc, a, _, h, _ => by simp [txGo] at h
  | 0, _ :: _, _, _, hn, _, _ => by simp at hn
  | n + 1, [], acc, a, _, h, _ => by simp [txGo] at h
  | n + 1, [x], acc, a, _, h, _ => by
    by_cases hx : x = 0
    · subst hx; rw [txGo_short] at h; cases h
    · by_cases hl : 200 ≤ acc.length
      · rw [txGo_many _ _ _ _ hx hl] at h; cases h
      · rw [txGo_one _ _ _ _ hx hl, txGo_nil] at h; cases h
  | n + 1, x :: y :: t, acc, a, hn, h, hacc => by
    by_cases hx : x = 0
    · subst hx
      by_cases hy : y = 0
      · subst hy
        rw [txGo_end]
        refine ⟨Int.le_refl _, by simp only [List.length_cons]; omega, rfl, rfl, ?_⟩
        show (strOfNums acc).size ≤ 200
        simp [strOfNums, ByteArray.size]; omega
      · by_cases hy2 : y = 255
        · subst hy2
          by_cases hl : 200 ≤ acc.length
          · rw [txGo_zmany _ _ _ hl] at h; cases h
          · rw [txGo_zero _ _ _ hl] at h ⊢
            have := txGo_ok n t (acc ++ [0]) (a + 2) (by simp at hn; omega) h (by simp; omega)
            refine ⟨by omega, ?_, this.2.2⟩
            simp only [List.length_cons]; omega
        · rw [txGo_form _ _ _ _ hy hy2] at h; cases h
    · by_cases hl : 200 ≤ acc.length
      · rw [txGo_many _ _ _ _ hx hl] at h; cases h
      · rw [txGo_one _ _ _ _ hx hl] at h ⊢
        have := txGo_ok n (y :: t) (acc ++ [x]) (a + 1) (by simp at hn ⊢; omega) h (by simp; omega)
        refine ⟨by omega, ?_, this.2.2⟩
        simp only [List.length_cons] at this ⊢; omega
theorem takeV_ok {b : List Int} (hb : ∀ x ∈ b, 0 ≤ x ∧ x < 256) {v : SValue} {m : Int} (h : takeV b = (v, m, 0)) : 0 ≤ m ∧ m ≤ b.length ∧ valOk v.f0 v.f1 v.f2 = true ∧ -9223372036854775808 ≤ v.f1 ∧ v.f1 ≤ 9223372036854775807 := by
  cases b with
  | nil => simp [takeV] at h
  | cons x t =>
    simp only [takeV] at h
    split at h
    · have h2 := txGo_ok t.length t [] 1 (Nat.le_refl _) (by rw [h]) (by simp)
      rw [h] at h2
      simp only at h2
      obtain ⟨h3, h4, h5, h6, h7⟩ := h2
      refine ⟨by omega, by simp only [List.length_cons]; omega, ?_, by rw [h6]; decide, by rw [h6]; decide⟩
      rw [h5, h6]; simp [valOk]; omega
    · split at h
      · split at h
        · cases h
        · have hl : (t.take 8).length = 8 := by rw [List.length_take]; omega
          have hlt := numOf_lt (t.take 8) (fun z hz => hb z (List.mem_cons_of_mem _ (List.mem_of_mem_take hz)))
          rw [hl] at hlt
          injection h with h1 h2
          injection h2 with h2 h3
          subst h1; subst h2
          have h8 : (256 : Int) ^ 8 = 18446744073709551616 := rfl
          rw [h8] at hlt
          refine ⟨by decide, by simp only [List.length_cons]; omega, by simp [valOk], ?_, ?_⟩ <;> simp only <;> omega
      · cases h
end Go.Proofs.Ytonbnlfijmapfaa
/- graph.Check: what may be. No condition but on sizes. -/
namespace Go.Proofs.Ytonbnlfijmapfaa
open Go.RowKit Go.Shelf Go.Proofs.YtonbnlfijmapfaaW.PrintWords
set_option linter.unusedVariables false
set_option linter.unusedSimpArgs false

def idOk (n : Int) : Bool := decide (0 ≤ n) && decide (n < 1099511627776)

set_option maxHeartbeats 1000000 in
theorem graph_Check1_calls (n : Int) (w : World) :
    Calls Try.prog 84 #[.int .i64 n] w fun e w' => e = .returned (.bool (!idOk n)) ∧ w = w' := by
  go_enter Try.func84, Try.ntmps84
  go_wp2
  all_goals (go_ret; refine ⟨ret_bool ?_, rfl⟩; go_tidy; rw [Bool.eq_iff_iff]; first | (simp [idOk]; done) | (simp [idOk]; omega))

theorem enters_Check1 : ∀ args w, (callFunc 84 args).run Try.prog w = .ok (.enter 84 args) w := enters_of Try.func84 (by kernel_rfl) rfl

/-- What graph.Check answers. -/
def checkN (label : ByteArray) (ps : List SPrp) (ids : List Int) : Int := if ids.all idOk = true then (if nameRight label = true then (if propsRight ps = true then 0 else 10) else 30) else 2

set_option maxHeartbeats 1000000 in
theorem graph_Check_calls (label : ByteArray) (A B : Option Addr) (c d : Nat) (ps : List SPrp) (ids : List Int) (w : World) (hl : label.size ≤ 100000) (hp : kPrp.C w A ps.length ps) (hf : fits ps) (hi : (Kd.int .i64).C w B ids.length ids) :
    Calls Try.prog 46 #[.string label, .slice A ps.length c, .slice B ids.length d] w fun e w' => e = .returned (.int .i64 (checkN label ps ids)) ∧ Below w.heap.size w w' := by
  have HPr : Hid (PredOn Try.prog 84 #[] (.int .i64) (fun n => !idOk n) w ids) := Lib.hid fun W x hx hB => (graph_Check1_calls x W).mono fun e w' ⟨he, hw⟩ => ⟨he, by subst hw; exact Below.refl _ _⟩
  have HP := Lib.hid hp; clear hp
  have HI := Lib.hid hi; clear hi
  have HF := Lib.hid hf; clear hf
  have ha : (ids.any fun n => !idOk n) = !ids.all idOk := by rw [List.any_eq_not_all_not]; simp
  cases h1 : ids.all idOk with
  | false =>
    rw [h1] at ha
    go_enter Try.func46, Try.ntmps46
    go_wp2_with (go_at_call 83; refine (ContainsFunc_int_calls 84 #[] enters_Check1 _ B d ids w HI.out HPr.out).mono ?_; rintro e w1 ⟨rfl, hb1⟩)
    go_ret
    exact ⟨ret_int (by unfold checkN; rw [h1]; rfl), hb1⟩
  | true =>
    rw [h1] at ha
    cases h2 : nameRight label with
    | false =>
      go_enter Try.func46, Try.ntmps46
      go_wp2_with (first
        | (go_at_call 83; refine (ContainsFunc_int_calls 84 #[] enters_Check1 _ B d ids w HI.out HPr.out).mono ?_; rintro e w1 ⟨rfl, hb1⟩)
        | (go_at_call 85; refine (letter_Right_one _ 1 label _ ?hC ?hs false h2).mono ?_; (case hC => exact C_boxg Kd.string (by decide) _ _ (by simp) label #[.string label] _ rfl); (case hs => omega); rintro e w2 ⟨rfl, hb2⟩))
      go_ret
      exact ⟨ret_int (by unfold checkN; rw [h1, h2]; rfl), keepB0 hb2 (keepB0 (below_al _ _) hb1)⟩
    | true =>
      go_enter Try.func46, Try.ntmps46
      go_wp2_with (first
        | (go_at_call 83; refine (ContainsFunc_int_calls 84 #[] enters_Check1 _ B d ids w HI.out HPr.out).mono ?_; rintro e w1 ⟨rfl, hb1⟩)
        | (go_at_call 85; refine (letter_Right_one _ 1 label _ ?hC ?hs true h2).mono ?_; (case hC => exact C_boxg Kd.string (by decide) _ _ (by simp) label #[.string label] _ rfl); (case hs => omega); rintro e w2 ⟨rfl, hb2⟩)
        | (go_at_call 86; have hq := keepB0 hb2 (keepB0 (below_al _ (.cells #[.string label] 9)) hb1); refine (props_Right_calls _ _ _ _ (Kd.C_below HP.out hq) HF.out).mono ?_; rintro e w3 ⟨rfl, hb3⟩))
      all_goals
        go_ret
        refine ⟨ret_int ?_, keepB0 hb3 hq⟩
        go_tidy
        unfold checkN
        rw [h1, h2]
        simp_all
end Go.Proofs.Ytonbnlfijmapfaa
/- value.Bytes: what it answers at every value. No condition but on sizes. -/
namespace Go.Proofs.Ytonbnlfijmapfaa
open Go.RowKit Go.Shelf Go.Proofs.YtonbnlfijmapfaaW.PrintWords
set_option linter.unusedVariables false
set_option linter.unusedSimpArgs false

theorem ta_int (n : Int) (W : World) : (Instr.typeAssert (.iface 3 (.int .i64 n)) 20 3 true).run Try.prog W = .ok (.tuple #[.int .i64 n, .bool true]) W := by kernel_rfl
theorem ta_int_no (s : ByteArray) (W : World) : (Instr.typeAssert (.iface 9 (.string s)) 20 3 true).run Try.prog W = .ok (.tuple #[.int .i64 0, .bool false]) W := by kernel_rfl
theorem ta_string (s : ByteArray) (W : World) : (Instr.typeAssert (.iface 9 (.string s)) 20 9 true).run Try.prog W = .ok (.tuple #[.string s, .bool true]) W := by kernel_rfl
theorem ta_int_nil (W : World) : (Instr.typeAssert .nilIface 20 3 true).run Try.prog W = .ok (.tuple #[.int .i64 0, .bool false]) W := by kernel_rfl
theorem ta_string_nil (W : World) : (Instr.typeAssert .nilIface 20 9 true).run Try.prog W = .ok (.tuple #[.string ⟨#[]⟩, .bool false]) W := by kernel_rfl

/-- A slice of bytes, of the call's own, and an error. -/
def RetBytes (w : World) (l : List Int) (e : Ending) (w' : World) : Prop := ∃ v, e = .returned (.tuple #[v, .int .i64 0]) ∧ (Kd.int .u8).R 5 w' w.heap.size (fun _ => True) v l ∧ Below w.heap.size w w'

set_option maxHeartbeats 2000000 in
set_option maxRecDepth 100000 in
theorem value_Bytes_int (n : Int) (s : ByteArray) (w : World) (h0 : -9223372036854775808 ≤ n) (h1 : n ≤ 9223372036854775807) (hs : s.toList.isEmpty = true) :
    Calls Try.prog 72 #[.agg #[.int .i64 1, .int .i64 n, .string s]] w (RetBytes w (intBytes n)) := by
  have ht : thingV 1 n s = .iface 3 (.int .i64 n) := by unfold thingV; simp [hs]
  have q1 := ta_int n
  have HX := Lib.hid (xor_top n h0 h1)
  go_enter Try.func72, Try.ntmps72
  go_wp2_with (go_at_call 105; refine (value_thing_calls _ _ _ _).mono ?_; rw [ht]; rintro e w1 ⟨rfl, hb1⟩)
  have HB1 := Lib.hid (keepB0 hb1 (below_al w _)); clear hb1
  go_loopw [7, 8] (fun v7 v8 wr => ∃ (j : Nat), j ≤ 8 ∧ v8 = .int .i64 (56 - 8 * (j : Int)) ∧ Hid (Below w.heap.size w wr) ∧ Hid ((Kd.int .u8).R 5 wr w.heap.size (fun _ => True) v7 ((intBytes n).take (j + 1)))) (fun _ v8 _ => (intOf v8 + 8).toNat)
  case atStart => exact ⟨0, by omega, rfl, Lib.hid (keepB0 (below_al _ _) HB1.out), Lib.hid (R_box1 1 .u8 HB1.out.size)⟩
  case round =>
    obtain ⟨j, hj, rfl, HB, HR⟩ := hrel
    by_cases hlt : j < 8
    · have e1 : (0 : Int) ≤ 56 - 8 * (j : Int) := by omega
      have HT := Lib.hid (intBytes_take n j hlt)
      go_wp2_with (at_builtin; (refine app_one HR.out info_u8 Try.underlying46 (M_int _) (fun _ _ => trivial) HB.out.size ?aL rfl (by decide) (by decide) rfl rfl rfl rfl ?_); (case aL => have := List.length_take_le (j + 1) (intBytes n); omega); intro v2 w2 hR2 hb2 hg2 hat2)
      go_roundw
      case rel =>
        refine ⟨j + 1, by omega, by go_num, Lib.hid (HB.out.trans hb2), Lib.hid ?_⟩
        rw [HT.out]
        have e : u8z (n + 9223372036854775808) j = bits BinOp.xor IntKind.u64 (IntKind.u64.wrap n) 9223372036854775808 / 2 ^ (56 - 8 * j) % 256 := by rw [HX.out]; rfl
        rw [e]; exact hR2
      case measure => simp [intOf]; omega
    · have e1 : 56 - 8 * (j : Int) < 0 := by omega
      go_wp2
      go_ret2
      refine ⟨_, rfl, ?_, HB.out⟩
      have := HR.out
      rwa [List.take_of_length_le (by rw [intBytes_length]; omega)] at this

set_option maxHeartbeats 2000000 in
set_option maxRecDepth 100000 in
theorem value_Bytes_no (k n : Int) (s : ByteArray) (w : World) (h : valOk k n s = false) :
    Calls Try.prog 72 #[.agg #[.int .i64 k, .int .i64 n, .string s]] w fun e w' => e = .returned (.tuple #[.slice none 0 0, .int .i64 22]) ∧ Below w.heap.size w w' := by
  have ht : thingV k n s = .nilIface := by
    rcases thingV_cases k n s with h2 | h2 | h2
    · exact h2.2
    · rw [h] at h2; cases h2.1
    · rw [h] at h2; cases h2.1
  have q1 := ta_int_nil
  have q2 := ta_string_nil
  go_enter Try.func72, Try.ntmps72
  go_wp2_with (go_at_call 105; refine (value_thing_calls _ _ _ _).mono ?_; rw [ht]; rintro e w1 ⟨rfl, hb1⟩)
  go_ret2
  exact ⟨rfl, keepB0 hb1 (below_al w _)⟩

/-- The letters from a place on. -/
theorem bytesOf_drop (s : ByteArray) (k : Nat) (h : k < s.size) : (bytesOf s).take (k + 1) = (bytesOf s).take k ++ [((s[k]'h).toNat : Int)] := by
  have hl : k < (bytesOf s).length := by rw [bytesOf_length]; exact h
  rw [List.take_succ_eq_append_getElem hl]
  congr 1
  simp [bytesOf]
  rfl

theorem esc_zero (x : Int) (h : x = 0) : esc [x] = [0, 255] := by subst h; rfl
theorem esc_one (x : Int) (h : ¬ x = 0) : esc [x] = [x] := by simp [esc, h]

set_option maxHeartbeats 4000000 in
set_option maxRecDepth 100000 in
theorem value_Bytes_text (s : ByteArray) (w : World) (hs : (s.size : Int) ≤ 200) :
    Calls Try.prog 72 #[.agg #[.int .i64 2, .int .i64 0, .string s]] w (RetBytes w (2 :: (esc (bytesOf s) ++ [0, 0]))) := by
  have ht : thingV 2 0 s = .iface 9 (.string s) := by unfold thingV; simp; omega
  have q1 := ta_int_no s
  have q2 := ta_string s
  go_enter Try.func72, Try.ntmps72
  go_wp2_with (go_at_call 105; refine (value_thing_calls _ _ _ _).mono ?_; rw [ht]; rintro e w1 ⟨rfl, hb1⟩)
  have HB1 := Lib.hid (keepB0 hb1 (below_al w _)); clear hb1
  go_loopw [11, 46] (fun v11 v46 wr => ∃ (k : Nat), k ≤ s.size ∧ v46 = .int .i64 k ∧ Hid (Below w.heap.size w wr) ∧ Hid ((Kd.int .u8).R 5 wr w.heap.size (fun _ => True) v11 (2 :: esc ((bytesOf s).take k)))) (fun _ v46 _ => s.size - (intOf v46).toNat)
  case atStart => exact ⟨0, by omega, rfl, Lib.hid (keepB0 (below_al _ _) HB1.out), Lib.hid (R_box1 2 .u8 HB1.out.size)⟩
  case round =>
    obtain ⟨k, hk, rfl, HB, HR⟩ := hrel
    by_cases hlt : k < s.size
    · have hlt2 : (k : Int) < (s.size : Int) := by omega
      have HT := Lib.hid (bytesOf_drop s k hlt)
      have hl1 := esc_length ((bytesOf s).take k)
      have hl2 := List.length_take_le k (bytesOf s)
      by_cases hz : ((s[k]'hlt).toNat : Int) = 0
      · have HE := Lib.hid (esc_zero _ hz)
        go_wp2_with (first
          | (at_builtin; (refine app_one HR.out info_u8 Try.underlying46 (M_int _) (fun _ _ => trivial) HB.out.size ?aL rfl (by decide) (by decide) rfl rfl rfl rfl ?_); (case aL => simp; omega); intro v2 w2 hR2 hb2 hg2 hat2; have HR2 := Lib.hid hR2; have HB2 := Lib.hid (HB.out.trans hb2); clear hR2 HR)
          | (at_builtin; (refine app_one HR2.out info_u8 Try.underlying46 (M_int _) (fun _ _ => trivial) HB2.out.size ?aL rfl (by decide) (by decide) rfl rfl rfl rfl ?_); (case aL => simp; omega); intro v3 w3 hR3 hb3 hg3 hat3; have HR3 := Lib.hid hR3; clear hR3 HR2))
        go_roundw
        case rel =>
          refine ⟨k + 1, by omega, by go_num, Lib.hid (HB2.out.trans hb3), Lib.hid ?_⟩
          rw [HT.out, esc_append, HE.out]
          have := HR3.out
          simpa using this
        case measure => simp [intOf]; omega
      · have HE := Lib.hid (esc_one _ hz)
        go_wp2_with (at_builtin; (refine app_one HR.out info_u8 Try.underlying46 (M_int _) (fun _ _ => trivial) HB.out.size ?aL rfl (by decide) (by decide) rfl rfl rfl rfl ?_); (case aL => simp; omega); intro v2 w2 hR2 hb2 hg2 hat2; have HR2 := Lib.hid hR2; have HB2 := Lib.hid (HB.out.trans hb2); clear hR2 HR)
        go_roundw
        case rel =>
          refine ⟨k + 1, by omega, by go_num, HB2, Lib.hid ?_⟩
          rw [HT.out, esc_append, HE.out]
          have := HR2.out
          simpa using this
        case measure => simp [intOf]; omega
    · have hlt2 : ¬ (k : Int) < (s.size : Int) := by omega
      have HF := HR.out
      rw [List.take_of_length_le (by rw [bytesOf_length]; omega)] at HF
      obtain ⟨v2, w2, hr2, hR2, hb2, -, -⟩ := run_app_row (ty := 46) (A := some ⟨wr.heap.size, 0, none⟩) (m := 2) (c := 2) (Kd.R_alloc HF (.cells (encs (Value.int .u8) [0, 0]).toArray 5)) (C_boxes (W := wr) (T := 5) [0, 0] .u8 (by simp)) Try.underlying46 info_u8 rfl (by decide) (fun _ _ => trivial) (by have := HB.out.size; simp; omega) (by have := esc_length (bytesOf s); rw [bytesOf_length] at this; simp; omega)
      have HR2 := Lib.hid hR2
      have HB2 := Lib.hid ((keepB0 (below_al _ _) HB.out).trans hb2)
      clear hR2 hb2 HF
      go_wp2_with (at_builtin; refine list_app rfl rfl rfl rfl hr2 ?_)
      go_ret2
      exact ⟨_, rfl, HR2.out, HB2.out⟩

/-- A value's bytes. -/
def valBytes (k n : Int) (s : ByteArray) : List Int := if k = 1 then intBytes n else 2 :: (esc (bytesOf s) ++ [0, 0])
theorem value_Bytes_calls (k n : Int) (s : ByteArray) (w : World) (h0 : -9223372036854775808 ≤ n) (h1 : n ≤ 9223372036854775807) (h : valOk k n s = true) :
    Calls Try.prog 72 #[.agg #[.int .i64 k, .int .i64 n, .string s]] w (RetBytes w (valBytes k n s)) := by
  rcases thingV_cases k n s with h2 | h2 | h2
  · rw [h] at h2; cases h2.1
  · obtain ⟨_, rfl, h3, _⟩ := h2
    exact value_Bytes_int n s w h0 h1 h3
  · obtain ⟨_, rfl, rfl, h3, _⟩ := h2
    exact value_Bytes_text s w h3
end Go.Proofs.Ytonbnlfijmapfaa
/- Boxes beside a row that grows: a block's object is kept. No condition. -/
namespace Go.Proofs.Ytonbnlfijmapfaa
open Go.RowKit Go.Shelf Go.Proofs.YtonbnlfijmapfaaW.PrintWords
set_option linter.unusedVariables false
set_option linter.unusedSimpArgs false

/-- A block and what lies in it. -/
def Blk (w : World) (b : Nat) (cs : Array Value) (t : Nat) : Prop := w.heap[b]? = some (.cells cs t (0, 0))
theorem blk_lt {w : World} {b : Nat} {cs : Array Value} {t : Nat} (h : Blk w b cs t) : b < w.heap.size := by
  rcases Nat.lt_or_ge b w.heap.size with h2 | h2
  · exact h2
  · rw [Blk, Array.getElem?_eq_none h2] at h; cases h
theorem blk_new (w : World) (cs : Array Value) (t : Nat) : Blk (w.alloc (.cells cs t)) w.heap.size cs t := heap_alloc_new w _
theorem blk_below {w w' : World} {b : Nat} {cs : Array Value} {t : Nat} (hb : Below w.heap.size w w') (h : Blk w b cs t) : Blk w' b cs t := (hb.block b (blk_lt h)).trans h
theorem blk_drew {w : World} {b : Nat} {cs : Array Value} {t : Nat} (h : Blk w b cs t) : Blk w.drew b cs t := h
theorem blk_alloc {w : World} {b : Nat} {cs : Array Value} {t : Nat} (h : Blk w b cs t) (o : Obj) : Blk (w.alloc o) b cs t := blk_below (below_al w o) h
theorem blk_cell {w : World} {b : Nat} {cs : Array Value} {t : Nat} (h : Blk w b cs t) (o : Nat) : w.cell? ⟨b, o, none⟩ = cs[o]? := cell_of_row w b o cs t (0, 0) h
theorem blk_grown {w w' : World} {b : Nat} {cs : Array Value} {t : Nat} (h : Blk w b cs t) {α : Type} {d : Kd α} {T base : Nat} {ok : Nat → Prop} {v : Value} {xs : List α} (hR : d.R T w base ok v xs) (hg : w.grownBy w' v.ownBlock) (hT : t ≠ T) : Blk w' b cs t := by
  refine (hg.block b (blk_lt h) (fun e => ?_)).trans h
  obtain ⟨inner, ho⟩ := Kd.R_own hR
  obtain ⟨cells, hc⟩ := own_typed ho b e.symm
  rw [Blk, hc] at h
  injection h with h; injection h with _ h; exact hT h.symm
theorem C_boxesg {W : World} {T g : Nat} (hg : g = W.heap.size) (xs : List Int) (k : IntKind) (hm : xs.length ≤ 9223372036854775807) : (Kd.int k).C (W.alloc (.cells (encs (Value.int k) xs).toArray T)) (some ⟨g, 0, none⟩) xs.length xs := by
  subst hg; exact C_boxes xs k hm
theorem R_beside {α β : Type} {d : Kd α} {d' : Kd β} {W w' : World} {T T' base base' : Nat} {ok ok' : Nat → Prop} {v v' : Value} {xs : List α} {ys : List β} (h : d.R T W base ok v xs) (hE : d.E = []) (hR : d'.R T' W base' ok' v' ys) (hg : W.grownBy w' v'.ownBlock) (hT : T ≠ T') : d.R T w' base ok v xs := by
  refine Kd.R_grown2 h hE hg (fun k hk e => ?_)
  obtain ⟨i1, h1⟩ := Kd.R_own h
  obtain ⟨i2, h2⟩ := Kd.R_own hR
  obtain ⟨c1, e1⟩ := own_typed h1 k e.symm
  obtain ⟨c2, e2⟩ := own_typed h2 k hk
  rw [e1] at e2; injection e2 with e2; injection e2 with _ e2; exact hT e2
/-- A row's literal. -/
theorem R_lits {α : Type} (d : Kd α) {W : World} {base T : Nat} (xs : List α) (cs : Array Value) (hrep : Reps (d.M W base (fun _ => True)) d.sz xs cs.toList) (hb : base ≤ W.heap.size) (hm : xs.length ≤ 9223372036854775807) : d.R T (W.alloc (.cells cs T)) base (fun _ => True) (.slice (some ⟨W.heap.size, 0, none⟩) xs.length xs.length) xs := by
  refine ⟨fun _ _ => trivial, cs.toList, ?_, ?_⟩
  · have h2 := World.ownsRow_lit (base := base) (e := T) (size := d.sz) W cs xs.length hb (by simpa [maxLen] using hm) (by simpa using hrep.1)
    simpa using h2
  · refine hrep.imp_ (fun p c hp => d.M_mono (fun k hk => ⟨trivial, fun he => ?_⟩) (Kd.M_below (d.M_bound hp) (below_al _ _)))
    have h3 : k = W.heap.size := by simpa [Value.ownBlock] using he
    have := hk.2.2.1
    omega
theorem R_boxd {α : Type} (d : Kd α) {W : World} {base T : Nat} (x : α) (cs : Array Value) (hM : d.M W base (fun _ => True) x cs.toList) (hb : base ≤ W.heap.size) : d.R T (W.alloc (.cells cs T)) base (fun _ => True) (.slice (some ⟨W.heap.size, 0, none⟩) 1 1) [x] := by
  have hl := d.K_len (d.K_of_M hM)
  refine R_lits d [x] cs ⟨by simpa using hl, fun j p hj => ?_⟩ hb (by simp)
  obtain ⟨rfl, rfl⟩ : j = 0 ∧ p = x := by
    cases j with
    | zero => exact ⟨rfl, by simpa using hj.symm⟩
    | succ j => simp at hj
  rw [Nat.zero_mul, List.drop_zero, List.take_of_length_le (by omega)]; exact hM
theorem info_Entry : (Try.prog.info? 39).map (fun i => (i.zero, i.size, i.bytes)) = some (some (.agg #[.string ⟨#[]⟩, .string ⟨#[]⟩]), 2, 32) := by kernel_rfl
end Go.Proofs.Ytonbnlfijmapfaa
/- props.Bytes: what it answers at every list. No condition but on sizes and numbers. -/
namespace Go.Proofs.Ytonbnlfijmapfaa
open Go.RowKit Go.Shelf Go.Proofs.YtonbnlfijmapfaaW.PrintWords
set_option linter.unusedVariables false
set_option linter.unusedSimpArgs false

/-- Numbers that are of the machine's. -/
def ranged (ps : List SPrp) : Prop := ∀ p ∈ ps, -9223372036854775808 ≤ p.f1.f1 ∧ p.f1.f1 ≤ 9223372036854775807
def propBytes (p : SPrp) : List Int := ((p.f0.size : Int) % 256) :: (bytesOf p.f0 ++ valBytes p.f1.f0 p.f1.f1 p.f1.f2)
def propsBytes (ps : List SPrp) : List Int := (ps.length : Int) :: ps.flatMap propBytes

theorem propsFrom_ok : ∀ (l : List SPrp) (q : Option ByteArray), propsFrom q l = true → ∀ p ∈ l, nameRight p.f0 = true ∧ p.f1.ok = true
  | [], _, _, p, hp => by simp at hp
  | x :: t, q, h, p, hp => by
    simp only [propsFrom, Bool.and_eq_true] at h
    rcases List.mem_cons.1 hp with rfl | hp
    · exact ⟨h.1.1.1, h.1.1.2⟩
    · exact propsFrom_ok t _ h.2 p hp
theorem propsRight_ok {l : List SPrp} (h : propsRight l = true) : (∀ p ∈ l, nameRight p.f0 = true ∧ p.f1.ok = true) ∧ l.length ≤ 16 := by
  simp only [propsRight, Bool.and_eq_true, decide_eq_true_eq] at h
  exact ⟨propsFrom_ok l none h.1, h.2⟩

theorem valBytes_length {k n : Int} {s : ByteArray} (h : valOk k n s = true) : (valBytes k n s).length ≤ 500 := by
  unfold valBytes
  rcases thingV_cases k n s with h2 | h2 | h2
  · rw [h] at h2; cases h2.1
  · obtain ⟨_, rfl, _⟩ := h2; simp [intBytes_length]
  · obtain ⟨_, rfl, rfl, h3, _⟩ := h2
    have := esc_length (bytesOf s)
    rw [bytesOf_length] at this
    simp; omega
theorem flat_length : ∀ (l : List SPrp), (∀ p ∈ l, p.f1.ok = true) → fits l → (l.flatMap propBytes).length ≤ 100501 * l.length
  | [], _, _ => by simp
  | p :: t, h, hf => by
    have h1 := flat_length t (fun p hp => h p (List.mem_cons_of_mem _ hp)) (fun p hp => hf p (List.mem_cons_of_mem _ hp))
    have h2 := valBytes_length (k := p.f1.f0) (n := p.f1.f1) (s := p.f1.f2) (h p List.mem_cons_self)
    have h3 := hf p List.mem_cons_self
    simp only [List.flatMap_cons, List.length_append, propBytes, List.length_cons, bytesOf_length]
    omega
theorem flat_take (l : List SPrp) (k : Nat) (h : k < l.length) : (l.take (k + 1)).flatMap propBytes = (l.take k).flatMap propBytes ++ propBytes (l.getD k zPrp) := by
  rw [List.take_succ_eq_append_getElem h]
  simp only [List.flatMap_append, List.getD_eq_getElem?_getD, List.getElem?_eq_getElem h, Option.getD_some, List.flatMap_cons, List.flatMap_nil, List.append_nil]

/-- A row of scalars that was made behind another row's block: it is read as before, behind two appends onto that one. -/
theorem C_behind {α : Type} {d : Kd α} (hE : d.E = []) {T base n c : Nat} {W w2 w3 : World} {A : Option Addr} {xs : List α} (h : d.R T W base (fun _ => True) (.slice A n c) xs) {v4 v2 : Value} (hv : ∀ k, v4.ownBlock = some k → k < base)
    (hg2 : W.drew.grownBy w2 v4.ownBlock) (hg3 : w2.grownBy w3 v2.ownBlock) (hat : v2.ownBlock = v4.ownBlock ∨ ∃ b, v2.ownBlock = some b ∧ W.drew.heap.size ≤ b) : d.C w3 A xs.length xs := by
  have hb := Kd.R_base h
  have hlt := Kd.R_lt h
  have h2 := Kd.R_grown2 (Kd.R_drew h) hE hg2 (fun k hk e => by have := hv k hk; have := hb k e.symm; omega)
  have h3 := Kd.R_grown2 h2 hE hg3 (fun k hk e => by
    rcases hat with h | ⟨b, hb', hle⟩
    · rw [h] at hk; have := hv k hk; have := hb k e.symm; omega
    · rw [hb'] at hk; injection hk with hk; have := hlt k e.symm; simp at hle; omega)
  exact (Kd.R_reads' h3).2.2

set_option maxHeartbeats 4000000 in
set_option maxRecDepth 100000 in
theorem props_Bytes_calls (A : Option Addr) (c : Nat) (l : List SPrp) (w : World) (h : kPrp.C w A l.length l) (hf : fits l) (hg : ranged l) (hr : propsRight l = true) :
    Calls Try.prog 104 #[.slice A l.length c] w (RetBytes w (propsBytes l)) := by
  have hm := Kd.C_max h
  obtain ⟨hok, h16⟩ := propsRight_ok hr
  have HX := Lib.hid h; clear h
  have HF := Lib.hid hf; clear hf
  have HG := Lib.hid hg; clear hg
  have HO := Lib.hid hok; clear hok
  go_enter Try.func104, Try.ntmps104
  go_wp2_with (go_at_call 86; refine (props_Right_calls _ _ _ _ HX.out HF.out).mono ?_; rw [hr]; rintro e w1 ⟨rfl, hb1⟩)
  have HB1 := Lib.hid hb1; clear hb1
  go_loopw [4, 18] (fun v4 v18 wr => ∃ (k : Nat), k ≤ l.length ∧ v18 = .int .i64 k ∧ Hid (Below w.heap.size w wr) ∧ Hid ((Kd.int .u8).R 5 wr w.heap.size (fun _ => True) v4 ((l.length : Int) :: (l.take k).flatMap propBytes))) (fun _ v18 _ => l.length - (intOf v18).toNat)
  case atStart => exact ⟨0, by omega, rfl, Lib.hid (keepB0 (below_al _ _) HB1.out), Lib.hid (R_box1 _ .u8 HB1.out.size)⟩
  case round =>
    obtain ⟨k, hk, rfl, HB, HR⟩ := hrel
    by_cases hlt : k < l.length
    · have hlt2 : (k : Int) < (l.length : Int) := by omega
      have hmem : l.getD k zPrp ∈ l := by simp [List.getD_eq_getElem?_getD, List.getElem?_eq_getElem hlt]
      have hs := HF.out _ hmem
      have hrg := HG.out _ hmem
      have hvo := (HO.out _ hmem).2
      have HT := Lib.hid (flat_take l k hlt)
      have hL := flat_length (l.take k) (fun p hp => (HO.out p (List.mem_of_mem_take hp)).2) (fun p hp => HF.out p (List.mem_of_mem_take hp))
      have hL2 := List.length_take_le k l
      obtain ⟨ad, rfl, g0, g1, g2, g3⟩ := at_Prp (Kd.C_below HX.out HB.out) (k : Int) (by omega) (by omega)
      simp only [Int.toNat_natCast, rd_Prp] at g0 g1 g2 g3
      cases hy : l.getD k zPrp with
      | mk y0 yv =>
      cases yv with
      | mk y1 y2 y3 =>
      rw [hy] at g0 g1 g2 g3 hs hrg hvo HT
      clear hy hmem
      simp only at g0 g1 g2 g3 hs hrg hvo
      have hvl := valBytes_length (k := y1) (n := y2) (s := y3) hvo
      go_wp2_with (go_at_call 72; refine (value_Bytes_calls y1 y2 y3 _ hrg.1 hrg.2 hvo).mono ?_; rintro e w7 ⟨v7, rfl, hR7, hb7⟩; have HR7 := Lib.hid hR7; have HB7 := Lib.hid hb7; clear hR7 hb7)
      have HR4 := Lib.hid (Kd.R_drew (Kd.R_below (Kd.R_alloc HR.out _) HB7.out))
      have HB0 : Below w.heap.size w w7.drew := below_drew (keepB0 HB7.out (keepB0 (below_al _ _) HB.out))
      have hLL : ((l.take k).flatMap propBytes).length ≤ 2000000 := by omega
      clear hL hL2
      generalize (l.take k).flatMap propBytes = X at HR HR4 HT hLL
      have hB4 : w.heap.size ≤ w7.drew.heap.size := by have h1 := HB.out.size; have h2 := HB7.out.size; simp at h2 ⊢; omega
      obtain ⟨A7, c7, rfl, -, -⟩ := Kd.R_reads HR7.out
      have hC7 := fun v2 w2 w3 hg2 hg3 hat => C_behind (v4 := u4) (v2 := v2) (w2 := w2) (w3 := w3) rfl HR7.out (fun k hk => Nat.lt_of_lt_of_le (Kd.R_lt HR.out k hk) (by simp)) hg2 hg3 hat
      go_wp2_with fail
      refine wp_region_held_drew (S := (fun w' => Blk w' wr.heap.size #[.string y0, .int .i64 y1, .int .i64 y2, .string y3] 117 ∧ Below w.heap.size w w')) (by kernel_rfl) ?hS6 (fun hH0 => ?_)
      case hS6 => refine ⟨blk_drew (blk_below HB7.out (blk_new wr _ _)), below_drew (keepB0 HB7.out (keepB0 (below_al _ _) HB.out))⟩
      refine takeY (oi := { dst := some 28, op := Op.move (Operand.tmp 4), type := 46, pos := "props.go:73", after := #[], guard := none }) 0 (some 28) (v := ?v0_6) rfl rfl (by kernel_rfl) (by kernel_rfl) (by kernel_rfl) (fun _ _ _ h => h) (by kernel_rfl) ?hy6 hH0 ?_
      case hy6 => (intro w_ hSw; (try dsimp only at hSw); go_simp; (first | done | with_reducible rfl | rw [if_neg (by omega)]))
      simp only [Act.put, List.setIfInBounds_toArray, List.set_cons_zero, List.set_cons_succ]
      refine takeY (oi := { dst := some 29, op := Op.fieldAddr 117 (Operand.tmp 6) 0, type := 0, pos := "props.go:73", after := #[], guard := none }) 1 (some 29) (v := ?v1_6) rfl rfl (by kernel_rfl) (by kernel_rfl) (by kernel_rfl) (fun _ _ _ h => h) (by kernel_rfl) ?hy6 hH0 ?_
      case hy6 => (intro w_ hSw; (try dsimp only at hSw); go_simp; (first | done | with_reducible rfl | rw [if_neg (by omega)]))
      simp only [Act.put, List.setIfInBounds_toArray, List.set_cons_zero, List.set_cons_succ]
      refine takeY (oi := { dst := some 30, op := Op.load 9 (Operand.tmp 29), type := 9, pos := "props.go:73", after := #[{ on := 1, ground := Ground.data }], guard := none }) 2 (some 30) (v := ?v2_6) rfl rfl (by kernel_rfl) (by kernel_rfl) (by kernel_rfl) (fun _ _ _ h => h) (by kernel_rfl) ?hy6 hH0 ?_
      case hy6 => (intro w_ hSw; (try dsimp only at hSw); (have hc := blk_cell hSw.1 0; go_simp; (first | done | with_reducible rfl)))
      simp only [Act.put, List.setIfInBounds_toArray, List.set_cons_zero, List.set_cons_succ]
      refine takeY (oi := { dst := some 31, op := Op.call { callee := Callee.builtin Builtin.len, args := #[Operand.tmp 30], argTypes := #[9] }, type := 3, pos := "props.go:73", after := #[{ on := 2, ground := Ground.data }], guard := none }) 3 (some 31) (v := ?v3_6) rfl rfl (by kernel_rfl) (by kernel_rfl) (by kernel_rfl) (fun _ _ _ h => h) (by kernel_rfl) ?hy6 hH0 ?_
      case hy6 => (intro w_ hSw; (try dsimp only at hSw); go_simp; (first | done | with_reducible rfl | rw [if_neg (by omega)]))
      simp only [Act.put, List.setIfInBounds_toArray, List.set_cons_zero, List.set_cons_succ]
      refine takeY (oi := { dst := some 32, op := Op.convert 3 5 (Operand.tmp 31), type := 5, pos := "props.go:73", after := #[{ on := 3, ground := Ground.data }], guard := none }) 4 (some 32) (v := ?v4_6) rfl rfl (by kernel_rfl) (by kernel_rfl) (by kernel_rfl) (fun _ _ _ h => h) (by kernel_rfl) ?hy6 hH0 ?_
      case hy6 => (intro w_ hSw; (try dsimp only at hSw); go_simp; (first | done | with_reducible rfl | rw [if_neg (by omega)]))
      simp only [Act.put, List.setIfInBounds_toArray, List.set_cons_zero, List.set_cons_succ]
      refine takeY (oi := { dst := some 35, op := Op.fieldAddr 117 (Operand.tmp 6) 0, type := 0, pos := "props.go:73", after := #[], guard := none }) 7 (some 35) (v := ?v7_6) rfl rfl (by kernel_rfl) (by kernel_rfl) (by kernel_rfl) (fun _ _ _ h => h) (by kernel_rfl) ?hy6 hH0 ?_
      case hy6 => (intro w_ hSw; (try dsimp only at hSw); go_simp; (first | done | with_reducible rfl | rw [if_neg (by omega)]))
      simp only [Act.put, List.setIfInBounds_toArray, List.set_cons_zero, List.set_cons_succ]
      refine takeY (oi := { dst := some 36, op := Op.load 9 (Operand.tmp 35), type := 9, pos := "props.go:73", after := #[{ on := 7, ground := Ground.data }], guard := none }) 8 (some 36) (v := ?v8_6) rfl rfl (by kernel_rfl) (by kernel_rfl) (by kernel_rfl) (fun _ _ _ h => h) (by kernel_rfl) ?hy6 hH0 ?_
      case hy6 => (intro w_ hSw; (try dsimp only at hSw); (have hc := blk_cell hSw.1 0; go_simp; (first | done | with_reducible rfl)))
      simp only [Act.put, List.setIfInBounds_toArray, List.set_cons_zero, List.set_cons_succ]
      refine takeY (oi := { dst := some 38, op := Op.move (Operand.tmp 7), type := 46, pos := "props.go:73", after := #[], guard := none }) 10 (some 38) (v := ?v10_6) rfl rfl (by kernel_rfl) (by kernel_rfl) (by kernel_rfl) (fun _ _ _ h => h) (by kernel_rfl) ?hy6 hH0 ?_
      case hy6 => (intro w_ hSw; (try dsimp only at hSw); go_simp; (first | done | with_reducible rfl | rw [if_neg (by omega)]))
      simp only [Act.put, List.setIfInBounds_toArray, List.set_cons_zero, List.set_cons_succ]
      refine wpAnyH_ready (rs := [5]) (by kernel_rfl) (by simp) ?_
      refine AllReadyH.cons (o := { dst := some 33, op := Op.buildSlice 46 1 #[(0, Operand.tmp 32)], type := 46, pos := "props.go:73", after := #[{ on := 4, ground := Ground.data }], guard := none }) rfl (fun K1 hK1 => ?_) AllReadyH.nil
      go_simp
      refine hK1.out _ _ ?hS6 (fun hH1 => ?_)
      case hS6 => ((try dsimp only); (exact ⟨blk_drew (blk_alloc hH0.1 _), keepB0 (below_al _ _) hH0.2⟩))
      clear hK1 K1
      (try clear hH0)
      (try simp only [Act.put, List.setIfInBounds_toArray, List.set_cons_zero, List.set_cons_succ])
      refine wpAnyH_ready (rs := [6]) (by kernel_rfl) (by simp) ?_
      refine AllReadyH.cons (o := { dst := some 34, op := Op.call { callee := Callee.builtin Builtin.append, args := #[Operand.tmp 28, Operand.tmp 33], argTypes := #[46, 46] }, type := 46, pos := "props.go:73", after := #[{ on := 0, ground := Ground.data }, { on := 5, ground := Ground.data }], guard := none }) rfl (fun K2 hK2 => ?_) AllReadyH.nil
      obtain ⟨v2, w2, hr2, hR2, hb2, hg2, hat2⟩ := run_app_one (ty := 46) HR4.out info_u8 Try.underlying46 (M_int ((y0.size : Int) % 256)) (fun _ _ => trivial) hB4 (by simp only [List.length_cons, List.length_append, bytesOf_length, List.length_nil]; omega) rfl (by decide) (by decide); refine step_app (by kernel_rfl) rfl rfl rfl hr2 ?_
      refine hK2.out _ _ ?hS6 (fun hH2 => ?_)
      case hS6 => ((try dsimp only); (exact ⟨blk_grown (blk_drew (blk_below HB7.out (blk_new wr _ _))) HR4.out hg2 (by decide), HB0.trans hb2⟩))
      clear hK2 K2
      (try clear hH1)
      (try simp only [Act.put, List.setIfInBounds_toArray, List.set_cons_zero, List.set_cons_succ])
      refine wpAnyH_ready (rs := [9]) (by kernel_rfl) (by simp) ?_
      refine AllReadyH.cons (o := { dst := some 37, op := Op.call { callee := Callee.builtin Builtin.append, args := #[Operand.tmp 34, Operand.tmp 36], argTypes := #[46, 9] }, type := 46, pos := "props.go:73", after := #[{ on := 6, ground := Ground.data }, { on := 8, ground := Ground.data }, { on := 6, ground := Ground.chain }], guard := none }) rfl (fun K3 hK3 => ?_) AllReadyH.nil
      obtain ⟨v3, w3, hr3, hR3, hb3, hg3⟩ := run_app_str (ty := 46) hR2 y0 Try.underlying46 Try.underlying9 info_u8 (Nat.le_trans hB4 hb2.size) (by simp only [List.length_cons, List.length_append, bytesOf_length, List.length_nil]; omega); refine step_app (by kernel_rfl) rfl rfl rfl hr3 ?_
      refine hK3.out _ _ ?hS6 (fun hH3 => ?_)
      case hS6 => ((try dsimp only); (exact ⟨blk_grown hH2.1 hR2 hg3 (by decide), hH2.2.trans hb3⟩))
      clear hK3 K3
      (try clear hH2)
      (try simp only [Act.put, List.setIfInBounds_toArray, List.set_cons_zero, List.set_cons_succ])
      refine wpAnyH_ready (rs := [11]) (by kernel_rfl) (by simp) ?_
      refine AllReadyH.cons (o := { dst := some 39, op := Op.call { callee := Callee.builtin Builtin.append, args := #[Operand.tmp 37, Operand.tmp 38], argTypes := #[46, 46] }, type := 46, pos := "props.go:73", after := #[{ on := 9, ground := Ground.data }, { on := 10, ground := Ground.data }, { on := 9, ground := Ground.chain }], guard := none }) rfl (fun K4 hK4 => ?_) AllReadyH.nil
      obtain ⟨v5, w5, hr5, hR5, hb5, hg5, -⟩ := run_app_row (ty := 46) hR3 (hC7 _ _ _ hg2 hg3 hat2) Try.underlying46 info_u8 rfl (by decide) (fun _ _ => trivial) (Nat.le_trans (Nat.le_trans hB4 hb2.size) hb3.size) (by simp only [List.length_cons, List.length_append, bytesOf_length, List.length_nil]; omega); refine step_app (by kernel_rfl) rfl rfl rfl hr5 ?_
      refine hK4.out _ _ ?hS6 (fun hH4 => ?_)
      case hS6 => ((try dsimp only); (exact ⟨blk_grown hH3.1 hR3 hg5 (by decide), hH3.2.trans hb5⟩))
      clear hK4 K4
      (try clear hH3)
      (try simp only [Act.put, List.setIfInBounds_toArray, List.set_cons_zero, List.set_cons_succ])
      refine takeY (oi := { dst := some 4, op := Op.assign (Operand.tmp 39), type := 46, pos := "props.go:73", after := #[{ on := 11, ground := Ground.data }, { on := 11, ground := Ground.chain }, { on := 0, ground := Ground.phase }, { on := 1, ground := Ground.phase }, { on := 2, ground := Ground.phase }, { on := 3, ground := Ground.phase }, { on := 4, ground := Ground.phase }, { on := 5, ground := Ground.phase }, { on := 6, ground := Ground.phase }, { on := 7, ground := Ground.phase }, { on := 8, ground := Ground.phase }, { on := 9, ground := Ground.phase }, { on := 10, ground := Ground.phase }, { on := 11, ground := Ground.phase }], guard := none }) 12 (some 4) (v := ?v12_6) rfl rfl (by kernel_rfl) (by kernel_rfl) (by kernel_rfl) (fun _ _ _ h => h) (by kernel_rfl) ?hy6 hH4 ?_
      case hy6 => (intro w_ hSw; (try dsimp only at hSw); go_simp; (first | done | with_reducible rfl | rw [if_neg (by omega)]))
      simp only [Act.put, List.setIfInBounds_toArray, List.set_cons_zero, List.set_cons_succ]
      refine wpAnyH_done (by kernel_rfl) ?_ _
      have hEnd := hH4
      clear hH4
      have HB5 := Lib.hid hEnd.2
      have HR5 := Lib.hid hR5
      clear hR5 hb5 hg5 hR2 hR3
      go_wp2
      go_roundw
      case rel =>
        refine ⟨k + 1, by omega, by go_num, HB5, Lib.hid ?_⟩
        have e := HR5.out
        rw [HT.out, propBytes]
        refine cast (congrArg (fun z => (Kd.int .u8).R 5 w5 w.heap.size (fun _ => True) v5 z) ?_) e
        simp [List.append_assoc, IntKind.wrap, IntKind.bits, IntKind.signed]
      case measure => simp [intOf]; omega
    · have hlt2 : ¬ (k : Int) < (l.length : Int) := by omega
      go_wp2
      go_ret2
      refine ⟨_, rfl, ?_, HB.out⟩
      have := HR.out
      rwa [List.take_of_length_le (by omega)] at this
end Go.Proofs.Ytonbnlfijmapfaa
/- web.five, web.text, VertexText, LabelIndex, ValueIndex. -/
namespace Go.Proofs.Ytonbnlfijmapfaa
open Go.RowKit Go.Shelf Go.Proofs.YtonbnlfijmapfaaW.PrintWords
set_option linter.unusedVariables false
set_option linter.unusedSimpArgs false

set_option maxHeartbeats 1000000 in
theorem web_LabelIndex_calls (s : ByteArray) (w : World) (hs : s.size ≤ 1000000) :
    Calls Try.prog 33 #[.string s] w fun e w' => e = .returned (.string (strOfNums [76] ++ s)) ∧ w = w' := by
  go_enter Try.func33, Try.ntmps33
  go_wp2
  go_ret
  exact ⟨rfl, rfl⟩

set_option maxHeartbeats 1000000 in
theorem web_ValueIndex_calls (s t : ByteArray) (w : World) (hs : s.size ≤ 1000000) (ht : t.size ≤ 1000000) :
    Calls Try.prog 34 #[.string s, .string t] w fun e w' => e = .returned (.string (strOfNums [80] ++ s ++ strOfNums [32] ++ t)) ∧ w = w' := by
  go_enter Try.func34, Try.ntmps34
  go_wp2
  go_ret
  exact ⟨rfl, rfl⟩

theorem str_box5 (a b c d e : Int) (W : World) : (convert 46 9 (.slice (some ⟨W.heap.size, 0, none⟩) 5 5)).run Try.prog (W.alloc (.cells #[.int .u8 a, .int .u8 b, .int .u8 c, .int .u8 d, .int .u8 e] 5)) = .ok (.string (strOfNums [a, b, c, d, e])) (W.alloc (.cells #[.int .u8 a, .int .u8 b, .int .u8 c, .int .u8 d, .int .u8 e] 5)) :=
  Kd.C_string Try.underlying46 Try.underlying5 Try.underlying9 (C_boxes [a, b, c, d, e] .u8 (by simp))
theorem str_box1 (a : Int) (W : World) : (convert 46 9 (.slice (some ⟨W.heap.size, 0, none⟩) 1 1)).run Try.prog (W.alloc (.cells #[.int .u8 a] 5)) = .ok (.string (strOfNums [a])) (W.alloc (.cells #[.int .u8 a] 5)) :=
  Kd.C_string Try.underlying46 Try.underlying5 Try.underlying9 (C_boxes [a] .u8 (by simp))
theorem str_R {W W' : World} {base : Nat} {ok : Nat → Prop} {v : Value} {xs : List Int} (h : (Kd.int .u8).R 5 W base ok v xs) (hb : Below W.heap.size W W') : (convert 46 9 v).run Try.prog W' = .ok (.string (strOfNums xs)) W' := by
  obtain ⟨A, c, rfl, -, hC⟩ := Kd.R_reads h
  exact Kd.C_string Try.underlying46 Try.underlying5 Try.underlying9 (Kd.C_below hC hb)
theorem propsBytes_size {l : List SPrp} (hr : propsRight l = true) (hf : fits l) : (propsBytes l).length ≤ 2000000 := by
  obtain ⟨h1, h2⟩ := propsRight_ok hr
  have := flat_length l (fun p hp => (h1 p hp).2) hf
  simp only [propsBytes, List.length_cons]
  omega
def fiveBytes (n : Int) : List Int := [n / 4294967296 % 256, n / 16777216 % 256, n / 65536 % 256, n / 256 % 256, n % 256]
set_option maxRecDepth 100000 in
set_option maxHeartbeats 1000000 in
theorem web_five_calls (n : Int) (w : World) :
    Calls Try.prog 71 #[.int .i64 n] w fun e w' => e = .returned (.string (strOfNums (fiveBytes n))) ∧ Below w.heap.size w w' := by
  have q := str_box5
  go_enter Try.func71, Try.ntmps71
  go_wp2
  go_ret
  exact ⟨rfl, below_al _ _⟩

/-- A label and properties, as a text. -/
def bodyText (label : ByteArray) (ps : List SPrp) : ByteArray := strOfNums [(label.size : Int) % 256] ++ label ++ strOfNums (propsBytes ps)
set_option maxRecDepth 100000 in
set_option maxHeartbeats 1000000 in
theorem web_text_calls (s : ByteArray) (A : Option Addr) (c : Nat) (l : List SPrp) (w : World) (hs : s.size ≤ 100000) (h : kPrp.C w A l.length l) (hf : fits l) (hg : ranged l) (hr : propsRight l = true) :
    Calls Try.prog 69 #[.string s, .slice A l.length c] w fun e w' => e = .returned (.string (bodyText s l)) ∧ Below w.heap.size w w' := by
  have q := str_box1
  have hps := propsBytes_size hr hf
  have hps2 := strOfNums_size (propsBytes l)
  have hps3 := strOfNums_size [(s.size : Int) % 256]
  have HX := Lib.hid h; clear h
  have HF := Lib.hid hf; clear hf
  have HG := Lib.hid hg; clear hg
  go_enter Try.func69, Try.ntmps69
  go_wp2_with (go_at_call 104; refine (props_Bytes_calls _ _ _ _ HX.out HF.out HG.out hr).mono ?_; rintro e w1 ⟨v1, rfl, hR1, hb1⟩; have HR1 := Lib.hid hR1; have HB1 := Lib.hid hb1; have q2 := fun o => str_R hR1 (below_al w1 o); clear hR1 hb1)
  go_ret
  exact ⟨ret_str rfl, keepB0 (below_al _ _) HB1.out⟩

theorem checkN_ok {label : ByteArray} {ps : List SPrp} {ids : List Int} (h : checkN label ps ids = 0) : ids.all idOk = true ∧ nameRight label = true ∧ propsRight ps = true := by
  unfold checkN at h
  split at h
  · split at h
    · split at h
      · exact ⟨by assumption, by assumption, by assumption⟩
      · cases h
    · cases h
  · cases h

/-- A vertex' text and the error. -/
def vertexText (id : Int) (label : ByteArray) (ps : List SPrp) : ByteArray := if checkN label ps [id] = 0 then bodyText label ps else ⟨#[]⟩
set_option maxRecDepth 100000 in
set_option maxHeartbeats 1000000 in
theorem web_VertexText_calls (id : Int) (s : ByteArray) (A : Option Addr) (c : Nat) (l : List SPrp) (w : World) (hs : s.size ≤ 100000) (h : kPrp.C w A l.length l) (hf : fits l) (hg : ranged l) :
    Calls Try.prog 17 #[.agg #[.int .i64 id, .string s, .slice A l.length c]] w fun e w' => e = .returned (.tuple #[.string (vertexText id s l), .int .i64 (checkN s l [id])]) ∧ Below w.heap.size w w' := by
  have HX := Lib.hid h; clear h
  have HF := Lib.hid hf; clear hf
  have HG := Lib.hid hg; clear hg
  by_cases hc : checkN s l [id] = 0
  · have hr := (checkN_ok hc).2.2
    go_enter Try.func17, Try.ntmps17
    go_wp2_with (first
      | (go_at_call 46; refine (graph_Check_calls _ _ _ _ 1 l [id] _ hs ?hP HF.out ?hI).mono ?_; (case hP => exact Kd.C_below HX.out (keepB0 (below_al _ _) (below_al w _))); (case hI => exact C_boxg (Kd.int .i64) (by decide) _ _ (by simp) id #[.int .i64 id] _ rfl); rw [hc]; rintro e w1 ⟨rfl, hb1⟩; have c1 : w1.cell? ⟨w.heap.size, 1, none⟩ = some (.string s) := blk_cell (blk_below hb1 (blk_alloc (blk_new w _ 24) _)) 1; have c2 : w1.cell? ⟨w.heap.size, 2, none⟩ = some (.slice A l.length c) := blk_cell (blk_below hb1 (blk_alloc (blk_new w _ 24) _)) 2; have HB1 := Lib.hid (keepB0 hb1 (keepB0 (below_al _ _) (below_al w _))); clear hb1)
      | (go_at_call 69; refine (web_text_calls _ _ _ _ _ hs (Kd.C_below HX.out HB1.out) HF.out HG.out hr).mono ?_; rintro e w2 ⟨rfl, hb2⟩))
    go_ret2
    exact ⟨by rw [vertexText, if_pos hc, hc]; rfl, keepB0 hb2 HB1.out⟩
  · go_enter Try.func17, Try.ntmps17
    go_wp2_with (
      (go_at_call 46; refine (graph_Check_calls _ _ _ _ 1 l [id] _ hs ?hP HF.out ?hI).mono ?_; (case hP => exact Kd.C_below HX.out (keepB0 (below_al _ _) (below_al w _))); (case hI => exact C_boxg (Kd.int .i64) (by decide) _ _ (by simp) id #[.int .i64 id] _ rfl); rintro e w1 ⟨rfl, hb1⟩; have HB1 := Lib.hid (keepB0 hb1 (keepB0 (below_al _ _) (below_al w _))); clear hb1))
    go_ret2
    exact ⟨by rw [vertexText, if_neg hc]; rfl, HB1.out⟩
end Go.Proofs.Ytonbnlfijmapfaa
/- web.EdgeText. -/
namespace Go.Proofs.Ytonbnlfijmapfaa
open Go.RowKit Go.Shelf Go.Proofs.YtonbnlfijmapfaaW.PrintWords
set_option linter.unusedVariables false
set_option linter.unusedSimpArgs false

theorem five_size (n : Int) : (strOfNums (fiveBytes n)).size = 5 := strOfNums_size _
theorem body_size {s : ByteArray} {l : List SPrp} (hs : s.size ≤ 100000) (hr : propsRight l = true) (hf : fits l) : (bodyText s l).size ≤ 2200000 := by
  have h1 := propsBytes_size hr hf
  simp only [bodyText, ByteArray.size_append, strOfNums_size, List.length_cons, List.length_nil]
  omega
/-- An edge's text. -/
def edgeText (id : Int) (label : ByteArray) (x y : Int) (ps : List SPrp) : ByteArray := if checkN label ps [id, x, y] = 0 then strOfNums (fiveBytes x) ++ strOfNums (fiveBytes y) ++ bodyText label ps else ⟨#[]⟩
set_option maxRecDepth 100000 in
set_option maxHeartbeats 2000000 in
theorem web_EdgeText_calls (id : Int) (s : ByteArray) (x y : Int) (A : Option Addr) (c : Nat) (l : List SPrp) (w : World) (hs : s.size ≤ 100000) (h : kPrp.C w A l.length l) (hf : fits l) (hg : ranged l) :
    Calls Try.prog 19 #[.agg #[.int .i64 id, .string s, .int .i64 x, .int .i64 y, .slice A l.length c]] w fun e w' => e = .returned (.tuple #[.string (edgeText id s x y l), .int .i64 (checkN s l [id, x, y])]) ∧ Below w.heap.size w w' := by
  have HX := Lib.hid h; clear h
  have HF := Lib.hid hf; clear hf
  have HG := Lib.hid hg; clear hg
  by_cases hc : checkN s l [id, x, y] = 0
  · have hr := (checkN_ok hc).2.2
    have z1 := five_size x
    have z2 := five_size y
    have z3 := body_size hs hr HF.out
    go_enter Try.func19, Try.ntmps19
    go_wp2_with (first
      | (go_at_call 46; refine (graph_Check_calls _ _ _ _ 3 l [id, x, y] _ hs ?hP HF.out ?hI).mono ?_; (case hP => exact Kd.C_below HX.out (keepB0 (below_al _ _) (below_al w _))); (case hI => exact C_boxesg (by simp) [id, x, y] .i64 (by simp)); rw [hc]; rintro e w1 ⟨rfl, hb1⟩; have K1 := Lib.hid (blk_below hb1 (blk_alloc (blk_new w #[.int .i64 id, .string s, .int .i64 x, .int .i64 y, .slice A l.length c] 35) _)); have HB1 := Lib.hid (keepB0 hb1 (keepB0 (below_al _ _) (below_al w _))); clear hb1))
    refine wp_region_held_drew (S := (fun w' => Blk w' w.heap.size #[.int .i64 id, .string s, .int .i64 x, .int .i64 y, .slice A l.length c] 35 ∧ Below w.heap.size w w')) (by kernel_rfl) ?hS7 (fun hH0 => ?_)
    case hS7 => exact ⟨blk_drew K1.out, below_drew HB1.out⟩
    refine takeY (oi := { dst := some 20, op := Op.fieldAddr 35 (Operand.tmp 1) 2, type := 0, pos := "web.go:127", after := #[], guard := none }) 0 (some 20) (v := ?v0_7) rfl rfl (by kernel_rfl) (by kernel_rfl) (by kernel_rfl) (fun _ _ _ h => h) (by kernel_rfl) ?hy7 hH0 ?_
    case hy7 => (intro w_ hSw; (try dsimp only at hSw); go_simp; (first | done | with_reducible rfl | rw [if_neg (by omega)]))
    simp only [Act.put, List.setIfInBounds_toArray, List.set_cons_zero, List.set_cons_succ]
    refine takeY (oi := { dst := some 21, op := Op.load 3 (Operand.tmp 20), type := 3, pos := "web.go:127", after := #[{ on := 0, ground := Ground.data }], guard := none }) 1 (some 21) (v := ?v1_7) rfl rfl (by kernel_rfl) (by kernel_rfl) (by kernel_rfl) (fun _ _ _ h => h) (by kernel_rfl) ?hy7 hH0 ?_
    case hy7 => (intro w_ hSw; (try dsimp only at hSw); (have hc := blk_cell hSw.1 2; go_simp; (first | done | with_reducible rfl)))
    simp only [Act.put, List.setIfInBounds_toArray, List.set_cons_zero, List.set_cons_succ]
    refine takeY (oi := { dst := some 23, op := Op.fieldAddr 35 (Operand.tmp 1) 3, type := 0, pos := "web.go:127", after := #[], guard := none }) 3 (some 23) (v := ?v3_7) rfl rfl (by kernel_rfl) (by kernel_rfl) (by kernel_rfl) (fun _ _ _ h => h) (by kernel_rfl) ?hy7 hH0 ?_
    case hy7 => (intro w_ hSw; (try dsimp only at hSw); go_simp; (first | done | with_reducible rfl | rw [if_neg (by omega)]))
    simp only [Act.put, List.setIfInBounds_toArray, List.set_cons_zero, List.set_cons_succ]
    refine takeY (oi := { dst := some 24, op := Op.load 3 (Operand.tmp 23), type := 3, pos := "web.go:127", after := #[{ on := 3, ground := Ground.data }], guard := none }) 4 (some 24) (v := ?v4_7) rfl rfl (by kernel_rfl) (by kernel_rfl) (by kernel_rfl) (fun _ _ _ h => h) (by kernel_rfl) ?hy7 hH0 ?_
    case hy7 => (intro w_ hSw; (try dsimp only at hSw); (have hc := blk_cell hSw.1 3; go_simp; (first | done | with_reducible rfl)))
    simp only [Act.put, List.setIfInBounds_toArray, List.set_cons_zero, List.set_cons_succ]
    refine takeY (oi := { dst := some 27, op := Op.fieldAddr 35 (Operand.tmp 1) 1, type := 0, pos := "web.go:127", after := #[], guard := none }) 7 (some 27) (v := ?v7_7) rfl rfl (by kernel_rfl) (by kernel_rfl) (by kernel_rfl) (fun _ _ _ h => h) (by kernel_rfl) ?hy7 hH0 ?_
    case hy7 => (intro w_ hSw; (try dsimp only at hSw); go_simp; (first | done | with_reducible rfl | rw [if_neg (by omega)]))
    simp only [Act.put, List.setIfInBounds_toArray, List.set_cons_zero, List.set_cons_succ]
    refine takeY (oi := { dst := some 28, op := Op.load 9 (Operand.tmp 27), type := 9, pos := "web.go:127", after := #[{ on := 7, ground := Ground.data }], guard := none }) 8 (some 28) (v := ?v8_7) rfl rfl (by kernel_rfl) (by kernel_rfl) (by kernel_rfl) (fun _ _ _ h => h) (by kernel_rfl) ?hy7 hH0 ?_
    case hy7 => (intro w_ hSw; (try dsimp only at hSw); (have hc := blk_cell hSw.1 1; go_simp; (first | done | with_reducible rfl)))
    simp only [Act.put, List.setIfInBounds_toArray, List.set_cons_zero, List.set_cons_succ]
    refine takeY (oi := { dst := some 29, op := Op.fieldAddr 35 (Operand.tmp 1) 4, type := 0, pos := "web.go:127", after := #[], guard := none }) 9 (some 29) (v := ?v9_7) rfl rfl (by kernel_rfl) (by kernel_rfl) (by kernel_rfl) (fun _ _ _ h => h) (by kernel_rfl) ?hy7 hH0 ?_
    case hy7 => (intro w_ hSw; (try dsimp only at hSw); go_simp; (first | done | with_reducible rfl | rw [if_neg (by omega)]))
    simp only [Act.put, List.setIfInBounds_toArray, List.set_cons_zero, List.set_cons_succ]
    refine takeY (oi := { dst := some 30, op := Op.load 22 (Operand.tmp 29), type := 22, pos := "web.go:127", after := #[{ on := 9, ground := Ground.data }], guard := none }) 10 (some 30) (v := ?v10_7) rfl rfl (by kernel_rfl) (by kernel_rfl) (by kernel_rfl) (fun _ _ _ h => h) (by kernel_rfl) ?hy7 hH0 ?_
    case hy7 => (intro w_ hSw; (try dsimp only at hSw); (have hc := blk_cell hSw.1 4; go_simp; (first | done | with_reducible rfl)))
    simp only [Act.put, List.setIfInBounds_toArray, List.set_cons_zero, List.set_cons_succ]
    refine wpAnyH_ready (rs := [2]) (by kernel_rfl) (by simp) ?_
    refine AllReadyH.cons (o := { dst := some 22, op := Op.call { callee := Callee.value (Operand.func 71), args := #[Operand.tmp 21], argTypes := #[3] }, type := 9, pos := "web.go:127", after := #[{ on := 1, ground := Ground.data }], guard := none }) rfl (fun K1 hK1 => ?_) AllReadyH.nil
    go_simp; refine (web_five_calls _ _).mono ?_; rintro e w2 ⟨rfl, hb2⟩
    refine hK1.out _ _ ?hS7 (fun hH1 => ?_)
    case hS7 => ((try dsimp only); (exact ⟨blk_below hb2 hH0.1, keepB0 hb2 hH0.2⟩))
    clear hK1 K1
    (try clear hH0)
    (try simp only [Act.put, List.setIfInBounds_toArray, List.set_cons_zero, List.set_cons_succ])
    refine wpAnyH_ready (rs := [5]) (by kernel_rfl) (by simp) ?_
    refine AllReadyH.cons (o := { dst := some 25, op := Op.call { callee := Callee.value (Operand.func 71), args := #[Operand.tmp 24], argTypes := #[3] }, type := 9, pos := "web.go:127", after := #[{ on := 4, ground := Ground.data }, { on := 2, ground := Ground.chain }], guard := none }) rfl (fun K2 hK2 => ?_) AllReadyH.nil
    go_simp; refine (web_five_calls _ _).mono ?_; rintro e w3 ⟨rfl, hb3⟩
    refine hK2.out _ _ ?hS7 (fun hH2 => ?_)
    case hS7 => ((try dsimp only); (exact ⟨blk_below hb3 hH1.1, keepB0 hb3 hH1.2⟩))
    clear hK2 K2
    (try clear hH1)
    (try simp only [Act.put, List.setIfInBounds_toArray, List.set_cons_zero, List.set_cons_succ])
    refine takeY (oi := { dst := some 26, op := Op.binOp BinOp.add 9 (Operand.tmp 22) (Operand.tmp 25) 9, type := 9, pos := "web.go:127", after := #[{ on := 2, ground := Ground.data }, { on := 5, ground := Ground.data }], guard := none }) 6 (some 26) (v := ?v6_7) rfl rfl (by kernel_rfl) (by kernel_rfl) (by kernel_rfl) (fun _ _ _ h => h) (by kernel_rfl) ?hy7 hH2 ?_
    case hy7 => (intro w_ hSw; (try dsimp only at hSw); go_simp; (first | done | with_reducible rfl | rw [if_neg (by omega)]))
    simp only [Act.put, List.setIfInBounds_toArray, List.set_cons_zero, List.set_cons_succ]
    refine wpAnyH_ready (rs := [11]) (by kernel_rfl) (by simp) ?_
    refine AllReadyH.cons (o := { dst := some 31, op := Op.call { callee := Callee.value (Operand.func 69), args := #[Operand.tmp 28, Operand.tmp 30], argTypes := #[9, 22] }, type := 9, pos := "web.go:127", after := #[{ on := 8, ground := Ground.data }, { on := 10, ground := Ground.data }, { on := 5, ground := Ground.chain }], guard := none }) rfl (fun K3 hK3 => ?_) AllReadyH.nil
    go_simp; refine (web_text_calls _ _ _ _ _ hs (Kd.C_below HX.out hH2.2) HF.out HG.out hr).mono ?_; rintro e w4 ⟨rfl, hb4⟩
    refine hK3.out _ _ ?hS7 (fun hH3 => ?_)
    case hS7 => ((try dsimp only); (exact ⟨blk_below hb4 hH2.1, keepB0 hb4 hH2.2⟩))
    clear hK3 K3
    (try clear hH2)
    (try simp only [Act.put, List.setIfInBounds_toArray, List.set_cons_zero, List.set_cons_succ])
    refine takeY (oi := { dst := some 32, op := Op.binOp BinOp.add 9 (Operand.tmp 26) (Operand.tmp 31) 9, type := 9, pos := "web.go:127", after := #[{ on := 6, ground := Ground.data }, { on := 11, ground := Ground.data }], guard := none }) 12 (some 32) (v := ?v12_7) rfl rfl (by kernel_rfl) (by kernel_rfl) (by kernel_rfl) (fun _ _ _ h => h) (by kernel_rfl) ?hy7 hH3 ?_
    case hy7 => (intro w_ hSw; (try dsimp only at hSw); go_simp; (first | done | with_reducible rfl | rw [if_neg (by omega)]))
    simp only [Act.put, List.setIfInBounds_toArray, List.set_cons_zero, List.set_cons_succ]
    refine takeY (oi := { dst := some 2, op := Op.assign (Operand.tmp 32), type := 9, pos := "web.go:127", after := #[{ on := 12, ground := Ground.data }, { on := 11, ground := Ground.chain }, { on := 0, ground := Ground.phase }, { on := 1, ground := Ground.phase }, { on := 2, ground := Ground.phase }, { on := 3, ground := Ground.phase }, { on := 4, ground := Ground.phase }, { on := 5, ground := Ground.phase }, { on := 6, ground := Ground.phase }, { on := 7, ground := Ground.phase }, { on := 8, ground := Ground.phase }, { on := 9, ground := Ground.phase }, { on := 10, ground := Ground.phase }, { on := 11, ground := Ground.phase }, { on := 12, ground := Ground.phase }], guard := none }) 13 (some 2) (v := ?v13_7) rfl rfl (by kernel_rfl) (by kernel_rfl) (by kernel_rfl) (fun _ _ _ h => h) (by kernel_rfl) ?hy7 hH3 ?_
    case hy7 => (intro w_ hSw; (try dsimp only at hSw); go_simp; (first | done | with_reducible rfl | rw [if_neg (by omega)]))
    simp only [Act.put, List.setIfInBounds_toArray, List.set_cons_zero, List.set_cons_succ]
    refine takeY (oi := { dst := some 3, op := Op.assign (Operand.const (Value.int IntKind.i64 0)), type := 28, pos := "web.go:127", after := #[{ on := 13, ground := Ground.chain }, { on := 0, ground := Ground.phase }, { on := 1, ground := Ground.phase }, { on := 2, ground := Ground.phase }, { on := 3, ground := Ground.phase }, { on := 4, ground := Ground.phase }, { on := 5, ground := Ground.phase }, { on := 6, ground := Ground.phase }, { on := 7, ground := Ground.phase }, { on := 8, ground := Ground.phase }, { on := 9, ground := Ground.phase }, { on := 10, ground := Ground.phase }, { on := 11, ground := Ground.phase }, { on := 12, ground := Ground.phase }, { on := 13, ground := Ground.phase }], guard := none }) 14 (some 3) (v := ?v14_7) rfl rfl (by kernel_rfl) (by kernel_rfl) (by kernel_rfl) (fun _ _ _ h => h) (by kernel_rfl) ?hy7 hH3 ?_
    case hy7 => (intro w_ hSw; (try dsimp only at hSw); go_simp; (first | done | with_reducible rfl | rw [if_neg (by omega)]))
    simp only [Act.put, List.setIfInBounds_toArray, List.set_cons_zero, List.set_cons_succ]
    refine wpAnyH_done (by kernel_rfl) ?_ _
    have hEnd := hH3
    clear hH3
    have HE := Lib.hid hEnd.2
    go_wp2
    go_ret2
    exact ⟨by rw [edgeText, if_pos hc, hc]; rfl, HE.out⟩
  · go_enter Try.func19, Try.ntmps19
    go_wp2_with (
      (go_at_call 46; refine (graph_Check_calls _ _ _ _ 3 l [id, x, y] _ hs ?hP HF.out ?hI).mono ?_; (case hP => exact Kd.C_below HX.out (keepB0 (below_al _ _) (below_al w _))); (case hI => exact C_boxesg (by simp) [id, x, y] .i64 (by simp)); rintro e w1 ⟨rfl, hb1⟩; have HB1 := Lib.hid (keepB0 hb1 (keepB0 (below_al _ _) (below_al w _))); clear hb1))
    go_ret2
    exact ⟨by rw [edgeText, if_neg hc]; rfl, HB1.out⟩
end Go.Proofs.Ytonbnlfijmapfaa
