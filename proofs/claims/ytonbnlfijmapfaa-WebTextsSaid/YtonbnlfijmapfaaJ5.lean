/- Texts of this proof, joined: L35. No condition. -/
import Derived.Test.YtonbnlfijmapfaaJ4
/- cobwebref03.Take. -/
namespace Go.Proofs.Ytonbnlfijmapfaa
open Go.RowKit Go.Shelf Go.Proofs.YtonbnlfijmapfaaW.PrintWords
set_option linter.unusedVariables false
set_option linter.unusedSimpArgs false

theorem rtake_at {w0 W : World} {ad : Addr} {b : List Int} {c a1 : Nat} {v0 v1 m e : Int} {v2 : ByteArray} (h : (Kd.int .u8).C w0 (some ad) b.length b) (hb : Below w0.heap.size w0 W) (hby : ∀ x ∈ b, 0 ≤ x ∧ x < 256) (h1 : a1 ≤ b.length) (hle : b.length ≤ c) (hne : ¬ c = a1) (hr : takeV (b.drop a1) = (⟨v0, v1, v2⟩, m, e)) :
    Calls Try.prog 128 #[.slice (some (ad.add a1)) (b.length - a1) (c - a1)] W fun e' w' => e' = .returned (.tuple #[.agg #[.int .i64 v0, .int .i64 v1, .string v2], .int .i64 m, .int .i64 e]) ∧ Below W.heap.size W w' := by
  have h3 := Kd.C_drop (m := a1) (c := c) (Kd.C_below h hb) h1 hle
  rw [if_neg hne] at h3
  have e1 : (some ad).map (·.add (a1 * (Kd.int .u8).sz)) = some (ad.add a1) := by
    show some (ad.add (a1 * 1)) = _
    rw [Nat.mul_one]
  rw [e1] at h3
  have h4 := ref02_Take_calls _ (c - a1) _ W h3 (fun z hz => hby z (List.mem_of_mem_drop hz))
  rw [hr, List.length_drop] at h4
  exact h4
theorem rtake_end {W : World} {ad : Addr} {b : List Int} {c a1 : Nat} {v0 v1 m e : Int} {v2 : ByteArray} (h1 : a1 ≤ b.length) (hle : b.length ≤ c) (hne : c = a1) (hr : takeV (b.drop a1) = (⟨v0, v1, v2⟩, m, e)) :
    Calls Try.prog 128 #[.slice (some ad) (b.length - a1) 0] W fun e' w' => e' = .returned (.tuple #[.agg #[.int .i64 v0, .int .i64 v1, .string v2], .int .i64 m, .int .i64 e]) ∧ Below W.heap.size W w' := by
  rw [List.drop_eq_nil_of_le (by omega)] at hr
  have h4 := ref02_Take_calls (some ad) 0 [] W (C_empty _ _ _) (fun z hz => by simp at hz)
  rw [hr] at h4
  rw [show b.length - a1 = 0 by omega]
  exact h4
theorem rtake_end0 {W : World} {ad : Addr} {b : List Int} {c a1 : Nat} {v0 v1 m e : Int} {v2 : ByteArray} (h1 : a1 ≤ b.length) (hle : b.length ≤ c) (hne : c = a1) (hr : takeV (b.drop a1) = (⟨v0, v1, v2⟩, m, e)) :
    Calls Try.prog 128 #[.slice (some ad) 0 0] W fun e' w' => e' = .returned (.tuple #[.agg #[.int .i64 v0, .int .i64 v1, .string v2], .int .i64 m, .int .i64 e]) ∧ Below W.heap.size W w' := by
  rw [List.drop_eq_nil_of_le (by omega)] at hr
  have h4 := ref02_Take_calls (some ad) 0 [] W (C_empty _ _ _) (fun z hz => by simp at hz)
  rw [hr] at h4
  exact h4
set_option maxRecDepth 100000 in
set_option maxHeartbeats 20000000 in
theorem ref03_Take_calls (A : Option Addr) (c : Nat) (b : List Int) (w : World) (h : (Kd.int .u8).C w A b.length b) (hle : b.length ≤ c) (hby : ∀ x ∈ b, 0 ≤ x ∧ x < 256) (hsz : b.length ≤ 1000000) :
    Calls Try.prog 108 #[.slice A b.length c] w (PropsRet w (takeP b)) := by
  have hm := Kd.C_max h
  have HX := Lib.hid h; clear h
  have HBY := Lib.hid hby; clear hby
  cases b with
  | nil =>
    have hl0 : ((([] : List Int).length : Nat) : Int) = 0 := rfl
    go_enter Try.func108, Try.ntmps108
    go_wp2
    refine bodyPost_ret (v := .tuple #[.slice none 0 0, .int .i64 0, .int .i64 20]) (by simp [results, Try.results108, go_sem]) rfl ⟨_, rfl, Kd.R_nil _ _ _ _ _, Below.refl _ _⟩
  | cons x t =>
    have HT : Hid (takeP (x :: t) = if 16 < x then ([], 0, 10) else tpGo (x :: t) x.toNat [] 1) := Lib.hid rfl
    have hxr := HBY.out x List.mem_cons_self
    obtain ⟨ad, rfl, g0⟩ := Kd.at_int HX.out 0 (by omega) (by simp)
    simp only [Int.toNat_zero, add_zero_, rd] at g0
    have hlen : 0 < (x :: t).length := by simp
    have hlen1 : ¬ (((x :: t).length : Nat) : Int) = 0 := by simp; omega
    have hx0 : (x :: t).getD 0 0 = x := rfl
    rw [hx0] at g0; clear hx0
    generalize hbb : x :: t = b at *
    have HBB := Lib.hid hbb; clear hbb
    by_cases h16 : 16 < x
    · have HT2 := Lib.hid (show takeP b = ([], 0, 10) from by rw [HT.out, if_pos h16])
      go_enter Try.func108, Try.ntmps108
      go_wp2
      refine bodyPost_ret (v := .tuple #[.slice none 0 0, .int .i64 0, .int .i64 10]) (by simp [results, Try.results108, go_sem]) rfl ⟨_, by rw [HT2.out], by rw [HT2.out]; exact Kd.R_nil _ _ _ _ _, Below.refl _ _⟩
    · have HT2 := Lib.hid (show takeP b = tpGo b x.toNat [] 1 from by rw [HT.out, if_neg h16])
      obtain ⟨hx0, hx1⟩ := hxr
      go_enter Try.func108, Try.ntmps108
      go_wp2_with fail
      go_loopw [6, 7, 8] (fun v5 v6 v25 wr => ∃ (i a : Nat) (out : List SPrp), (i : Int) ≤ x ∧ out.length = i ∧ 1 ≤ a ∧ a ≤ b.length ∧ v25 = .int .i64 i ∧ v6 = .int .i64 a ∧ Hid (fits out) ∧ Hid (Below w.heap.size w wr) ∧ Hid (kPrp.R 117 wr w.heap.size (fun _ => True) v5 out) ∧ Hid (tpGo b (x.toNat - i) out a = takeP b)) (fun _ _ v25 _ => (x - intOf v25).toNat)
      case atStart => exact ⟨0, 1, [], by omega, rfl, by omega, by omega, rfl, rfl, Lib.hid (fun p hp => by simp at hp), Lib.hid (Below.refl _ _), Lib.hid (Kd.R_nil _ _ _ _ _), Lib.hid (by rw [HT2.out]; rfl)⟩
      case round =>
        obtain ⟨i, a, out, hi, hol, ha1, hab, rfl, rfl, HF, HB, HR, HI⟩ := hrel
        by_cases hlt : (i : Int) < x
        · have HI2 : Hid (tpGo b (x.toNat - (i + 1) + 1) out a = takeP b) := Lib.hid (by rw [show x.toNat - (i + 1) + 1 = x.toNat - i by omega]; exact HI.out)
          by_cases hal : a < b.length
          · have hal2 : ¬ ((b.length : Int) ≤ (a : Int)) := by omega
            obtain ⟨ad2, e2, g1⟩ := Kd.at_int (Kd.C_below HX.out HB.out) (a : Int) (by omega) (by omega)
            cases e2
            simp only [Int.toNat_natCast, rd] at g1
            obtain ⟨hk1, hk2⟩ := keyLen_range HBY.out hal
            rw [hk1] at g1
            have HK1 := Lib.hid hk1; clear hk1
            obtain ⟨k, hkk⟩ : ∃ k, keyLen b a = k := ⟨_, rfl⟩
            rw [hkk] at g1 hk2
            by_cases hfit : a + 1 + k ≤ b.length
            · have hfit2 : ¬ ((b.length : Int) < (a : Int) + 1 + (k : Int)) := by omega
              have HK := Lib.hid hkk; clear hkk
              obtain ⟨A5, c5, rfl, hle5, hC5⟩ := Kd.R_reads HR.out
              have HC5 := Lib.hid hC5; clear hC5
              have HOL := Lib.hid hol; clear hol
              by_cases hcap : c = a + 1
              · obtain rfl : k = 0 := by omega
                subst hcap
                have hfit3 : ¬ ((b.length : Int) < (a : Int) + 1) := by omega
                clear hfit2
                rw [show (((0 : Nat) : Int)) = 0 from rfl] at g1
                have HKE := Lib.hid (show keyAt b a = ⟨#[]⟩ from by rw [keyAt, HK.out]; rfl)
                have q1 : (convert 46 9 (.slice (some ad) 0 0)).run Try.prog wr = .ok (.string (strOfNums [])) wr := Kd.C_string Try.underlying46 Try.underlying5 Try.underlying9 (C_empty (Kd.int .u8) wr (some ad))
                have q2 : strOfNums [] = ⟨#[]⟩ := rfl
                rw [q2] at q1; clear q2
                have HE : Hid (tpGo b (x.toNat - (i + 1) + 1) out a = ([], 0, 30)) := Lib.hid (tpGo_name (by rw [HK.out]; omega) (.inl (by rw [HKE.out]; exact nameRight_empty)))
                go_wp2_with fail
                refine wp_region_held_drew (S := (fun w' => Blk w' wr.heap.size #[.string ⟨#[]⟩, .int .i64 0, .int .i64 0, .string ⟨#[]⟩] 117 ∧ kPrp.R 117 w' w.heap.size (fun k => k < wr.heap.size) (.slice A5 out.length c5) out ∧ Below w.heap.size w w' ∧ Below wr.heap.size wr w')) (by kernel_rfl) ?hS1 (fun hH0 => ?_)
                case hS1 => exact ⟨blk_drew (blk_new wr _ _), Kd.R_drew (Kd.R_alloc (Kd.R_mono (Kd.R_bound HR.out) (fun k hk => hk.2.2.1)) _), below_drew (keepB0 (below_al _ _) HB.out), below_drew (below_al _ _)⟩
                refine takeY (oi := { dst := some 54, op := Op.fieldAddr 117 (Operand.tmp 10) 0, type := 0, pos := "ref.go:124", after := #[], guard := none }) 0 (some 54) (v := ?v0_1) rfl rfl (by kernel_rfl) (by kernel_rfl) (by kernel_rfl) (fun _ _ _ h => h) (by kernel_rfl) ?hy1 hH0 ?_
                case hy1 => (intro w_ hSw; (try dsimp only at hSw); (have k0 := blk_cell hSw.1 0; (try have k1 := hSw.2); go_simp; (first | done | with_reducible rfl | rw [if_neg (by omega)])))
                simp only [Act.put, List.setIfInBounds_toArray, List.set_cons_zero, List.set_cons_succ]
                refine takeY (oi := { dst := some 55, op := Op.load 9 (Operand.tmp 54), type := 9, pos := "ref.go:124", after := #[{ on := 0, ground := Ground.data }], guard := none }) 1 (some 55) (v := ?v1_1) rfl rfl (by kernel_rfl) (by kernel_rfl) (by kernel_rfl) (fun _ _ _ h => h) (by kernel_rfl) ?hy1 hH0 ?_
                case hy1 => (intro w_ hSw; (try dsimp only at hSw); (have k0 := blk_cell hSw.1 0; (try have k1 := hSw.2); go_simp; (first | done | with_reducible rfl | rw [if_neg (by omega)])))
                simp only [Act.put, List.setIfInBounds_toArray, List.set_cons_zero, List.set_cons_succ]
                refine wpAnyH_ready (rs := [2]) (by kernel_rfl) (by simp) ?_
                refine AllReadyH.cons (o := { dst := some 56, op := Op.call { callee := Callee.value (Operand.func 67), args := #[Operand.tmp 55], argTypes := #[9] }, type := 4, pos := "ref.go:124", after := #[{ on := 1, ground := Ground.data }], guard := none }) rfl (fun K1 hK1 => ?_) AllReadyH.nil
                go_simp; refine (ref01_Right_calls ⟨#[]⟩ _ (by first | omega | decide)).mono ?_; rw [nameRight_empty]; rintro e w2 ⟨rfl, hb2⟩
                refine hK1.out _ _ ?hS1 (fun hH1 => ?_)
                case hS1 => ((try dsimp only); (exact ⟨blk_below hb2 hH0.1, Kd.R_below hH0.2.1 hb2, keepB0 hb2 hH0.2.2.1, keepB0 hb2 hH0.2.2.2⟩))
                clear hK1 K1
                (try clear hH0)
                (try simp only [Act.put, List.setIfInBounds_toArray, List.set_cons_zero, List.set_cons_succ])
                refine takeY (oi := { dst := some 57, op := Op.unOp UnOp.not 4 (Operand.tmp 56), type := 4, pos := "ref.go:124", after := #[{ on := 2, ground := Ground.data }], guard := none }) 3 (some 57) (v := ?v3_1) rfl rfl (by kernel_rfl) (by kernel_rfl) (by kernel_rfl) (fun _ _ _ h => h) (by kernel_rfl) ?hy1 hH1 ?_
                case hy1 => (intro w_ hSw; (try dsimp only at hSw); (have k0 := blk_cell hSw.1 0; (try have k1 := hSw.2); go_simp; (first | done | with_reducible rfl | rw [if_neg (by omega)])))
                simp only [Act.put, List.setIfInBounds_toArray, List.set_cons_zero, List.set_cons_succ]
                refine takeY (oi := { dst := some 58, op := Op.move (Operand.tmp 57), type := 4, pos := "ref.go:124", after := #[{ on := 3, ground := Ground.data }, { on := 2, ground := Ground.chain }], guard := none }) 4 (some 58) (v := ?v4_1) rfl rfl (by kernel_rfl) (by kernel_rfl) (by kernel_rfl) (fun _ _ _ h => h) (by kernel_rfl) ?hy1 hH1 ?_
                case hy1 => (intro w_ hSw; (try dsimp only at hSw); (have k0 := blk_cell hSw.1 0; (try have k1 := hSw.2); go_simp; (first | done | with_reducible rfl | rw [if_neg (by omega)])))
                simp only [Act.put, List.setIfInBounds_toArray, List.set_cons_zero, List.set_cons_succ]
                refine takeN 5 (some 59) rfl (by kernel_rfl) (by kernel_rfl) (by kernel_rfl) (by kernel_rfl) (fun _ _ _ h => h) (by kernel_rfl) hH1 ?_
                simp only [Act.put, List.setIfInBounds_toArray, List.set_cons_zero, List.set_cons_succ]
                refine takeN 6 (some 60) rfl (by kernel_rfl) (by kernel_rfl) (by kernel_rfl) (by kernel_rfl) (fun _ _ _ h => h) (by kernel_rfl) hH1 ?_
                simp only [Act.put, List.setIfInBounds_toArray, List.set_cons_zero, List.set_cons_succ]
                refine takeN 7 (some 61) rfl (by kernel_rfl) (by kernel_rfl) (by kernel_rfl) (by kernel_rfl) (fun _ _ _ h => h) (by kernel_rfl) hH1 ?_
                simp only [Act.put, List.setIfInBounds_toArray, List.set_cons_zero, List.set_cons_succ]
                refine takeN 8 (some 62) rfl (by kernel_rfl) (by kernel_rfl) (by kernel_rfl) (by kernel_rfl) (fun _ _ _ h => h) (by kernel_rfl) hH1 ?_
                simp only [Act.put, List.setIfInBounds_toArray, List.set_cons_zero, List.set_cons_succ]
                refine takeN 9 (some 63) rfl (by kernel_rfl) (by kernel_rfl) (by kernel_rfl) (by kernel_rfl) (fun _ _ _ h => h) (by kernel_rfl) hH1 ?_
                simp only [Act.put, List.setIfInBounds_toArray, List.set_cons_zero, List.set_cons_succ]
                refine takeN 10 (some 64) rfl (by kernel_rfl) (by kernel_rfl) (by kernel_rfl) (by kernel_rfl) (fun _ _ _ h => h) (by kernel_rfl) hH1 ?_
                simp only [Act.put, List.setIfInBounds_toArray, List.set_cons_zero, List.set_cons_succ]
                refine takeN 11 (some 65) rfl (by kernel_rfl) (by kernel_rfl) (by kernel_rfl) (by kernel_rfl) (fun _ _ _ h => h) (by kernel_rfl) hH1 ?_
                simp only [Act.put, List.setIfInBounds_toArray, List.set_cons_zero, List.set_cons_succ]
                refine takeN 12 (some 66) rfl (by kernel_rfl) (by kernel_rfl) (by kernel_rfl) (by kernel_rfl) (fun _ _ _ h => h) (by kernel_rfl) hH1 ?_
                simp only [Act.put, List.setIfInBounds_toArray, List.set_cons_zero, List.set_cons_succ]
                refine takeN 13 (some 67) rfl (by kernel_rfl) (by kernel_rfl) (by kernel_rfl) (by kernel_rfl) (fun _ _ _ h => h) (by kernel_rfl) hH1 ?_
                simp only [Act.put, List.setIfInBounds_toArray, List.set_cons_zero, List.set_cons_succ]
                refine takeN 14 (some 68) rfl (by kernel_rfl) (by kernel_rfl) (by kernel_rfl) (by kernel_rfl) (fun _ _ _ h => h) (by kernel_rfl) hH1 ?_
                simp only [Act.put, List.setIfInBounds_toArray, List.set_cons_zero, List.set_cons_succ]
                refine takeN 15 (some 69) rfl (by kernel_rfl) (by kernel_rfl) (by kernel_rfl) (by kernel_rfl) (fun _ _ _ h => h) (by kernel_rfl) hH1 ?_
                simp only [Act.put, List.setIfInBounds_toArray, List.set_cons_zero, List.set_cons_succ]
                refine takeN 16 (some 70) rfl (by kernel_rfl) (by kernel_rfl) (by kernel_rfl) (by kernel_rfl) (fun _ _ _ h => h) (by kernel_rfl) hH1 ?_
                simp only [Act.put, List.setIfInBounds_toArray, List.set_cons_zero, List.set_cons_succ]
                refine takeN 17 (some 71) rfl (by kernel_rfl) (by kernel_rfl) (by kernel_rfl) (by kernel_rfl) (fun _ _ _ h => h) (by kernel_rfl) hH1 ?_
                simp only [Act.put, List.setIfInBounds_toArray, List.set_cons_zero, List.set_cons_succ]
                refine takeN 18 (some 72) rfl (by kernel_rfl) (by kernel_rfl) (by kernel_rfl) (by kernel_rfl) (fun _ _ _ h => h) (by kernel_rfl) hH1 ?_
                simp only [Act.put, List.setIfInBounds_toArray, List.set_cons_zero, List.set_cons_succ]
                refine takeY (oi := { dst := some 73, op := Op.pick (Operand.tmp 58) (Operand.const (Value.bool true)) (Operand.tmp 72), type := 4, pos := "ref.go:124", after := #[{ on := 4, ground := Ground.data }, { on := 18, ground := Ground.data }], guard := none }) 19 (some 73) (v := ?v19_1) rfl rfl (by kernel_rfl) (by kernel_rfl) (by kernel_rfl) (fun _ _ _ h => h) (by kernel_rfl) ?hy1 hH1 ?_
                case hy1 => (intro w_ hSw; (try dsimp only at hSw); (have k0 := blk_cell hSw.1 0; (try have k1 := hSw.2); go_simp; (first | done | with_reducible rfl | rw [if_neg (by omega)])))
                simp only [Act.put, List.setIfInBounds_toArray, List.set_cons_zero, List.set_cons_succ]
                refine wpAnyH_done (by kernel_rfl) ?_ _
                have hEnd := hH1
                clear hH1
                have HZ := Lib.hid hEnd
                go_wp2
                refine bodyPost_ret (v := .tuple #[.slice none 0 0, .int .i64 0, .int .i64 (30)]) (by simp [results, Try.results108, go_sem]) rfl ⟨_, by rw [← HI2.out, HE.out], by rw [← HI2.out, HE.out]; exact Kd.R_nil _ _ _ _ _, HZ.out.2.2.1⟩
              · have HKA : Hid (keyAt b a = strOfNums ((b.drop (a + 1)).take k)) := Lib.hid (by rw [keyAt, HK.out])
                have hCk := C_sub (Kd.C_below HX.out HB.out) hfit
                have q1 : ∀ cc, (convert 46 9 (.slice (some ⟨ad.block, ad.off + (a + 1), none⟩) k cc)).run Try.prog wr = .ok (.string (strOfNums ((b.drop (a + 1)).take k))) wr := fun cc => Kd.C_string Try.underlying46 Try.underlying5 Try.underlying9 hCk
                rw [← HKA.out] at q1
                have hks : (keyAt b a).size = k := by rw [HKA.out, strOfNums_size, List.length_take, List.length_drop]; omega
                clear hCk HKA
                generalize hkey : keyAt b a = key at q1 hks
                have HKY := Lib.hid hkey; clear hkey
                subst hks
                cases hN : nameRight key with
                | false =>
                  have HE : Hid (tpGo b (x.toNat - (i + 1) + 1) out a = ([], 0, 30)) := Lib.hid (tpGo_name (by rw [HK.out]; omega) (.inl (by rw [HKY.out]; exact hN)))
                  go_wp2_with fail
                  refine wp_region_held_drew (S := (fun w' => Blk w' wr.heap.size #[.string key, .int .i64 0, .int .i64 0, .string ⟨#[]⟩] 117 ∧ kPrp.R 117 w' w.heap.size (fun k => k < wr.heap.size) (.slice A5 out.length c5) out ∧ Below w.heap.size w w' ∧ Below wr.heap.size wr w')) (by kernel_rfl) ?hS2 (fun hH0 => ?_)
                  case hS2 => exact ⟨blk_drew (blk_new wr _ _), Kd.R_drew (Kd.R_alloc (Kd.R_mono (Kd.R_bound HR.out) (fun k hk => hk.2.2.1)) _), below_drew (keepB0 (below_al _ _) HB.out), below_drew (below_al _ _)⟩
                  refine takeY (oi := { dst := some 54, op := Op.fieldAddr 117 (Operand.tmp 10) 0, type := 0, pos := "ref.go:124", after := #[], guard := none }) 0 (some 54) (v := ?v0_2) rfl rfl (by kernel_rfl) (by kernel_rfl) (by kernel_rfl) (fun _ _ _ h => h) (by kernel_rfl) ?hy2 hH0 ?_
                  case hy2 => (intro w_ hSw; (try dsimp only at hSw); (have k0 := blk_cell hSw.1 0; (try have k1 := hSw.2); go_simp; (first | done | with_reducible rfl | rw [if_neg (by omega)])))
                  simp only [Act.put, List.setIfInBounds_toArray, List.set_cons_zero, List.set_cons_succ]
                  refine takeY (oi := { dst := some 55, op := Op.load 9 (Operand.tmp 54), type := 9, pos := "ref.go:124", after := #[{ on := 0, ground := Ground.data }], guard := none }) 1 (some 55) (v := ?v1_2) rfl rfl (by kernel_rfl) (by kernel_rfl) (by kernel_rfl) (fun _ _ _ h => h) (by kernel_rfl) ?hy2 hH0 ?_
                  case hy2 => (intro w_ hSw; (try dsimp only at hSw); (have k0 := blk_cell hSw.1 0; (try have k1 := hSw.2); go_simp; (first | done | with_reducible rfl | rw [if_neg (by omega)])))
                  simp only [Act.put, List.setIfInBounds_toArray, List.set_cons_zero, List.set_cons_succ]
                  refine wpAnyH_ready (rs := [2]) (by kernel_rfl) (by simp) ?_
                  refine AllReadyH.cons (o := { dst := some 56, op := Op.call { callee := Callee.value (Operand.func 67), args := #[Operand.tmp 55], argTypes := #[9] }, type := 4, pos := "ref.go:124", after := #[{ on := 1, ground := Ground.data }], guard := none }) rfl (fun K1 hK1 => ?_) AllReadyH.nil
                  go_simp; refine (ref01_Right_calls key _ (by first | omega | decide)).mono ?_; rw [hN]; rintro e w2 ⟨rfl, hb2⟩
                  refine hK1.out _ _ ?hS2 (fun hH1 => ?_)
                  case hS2 => ((try dsimp only); (exact ⟨blk_below hb2 hH0.1, Kd.R_below hH0.2.1 hb2, keepB0 hb2 hH0.2.2.1, keepB0 hb2 hH0.2.2.2⟩))
                  clear hK1 K1
                  (try clear hH0)
                  (try simp only [Act.put, List.setIfInBounds_toArray, List.set_cons_zero, List.set_cons_succ])
                  refine takeY (oi := { dst := some 57, op := Op.unOp UnOp.not 4 (Operand.tmp 56), type := 4, pos := "ref.go:124", after := #[{ on := 2, ground := Ground.data }], guard := none }) 3 (some 57) (v := ?v3_2) rfl rfl (by kernel_rfl) (by kernel_rfl) (by kernel_rfl) (fun _ _ _ h => h) (by kernel_rfl) ?hy2 hH1 ?_
                  case hy2 => (intro w_ hSw; (try dsimp only at hSw); (have k0 := blk_cell hSw.1 0; (try have k1 := hSw.2); go_simp; (first | done | with_reducible rfl | rw [if_neg (by omega)])))
                  simp only [Act.put, List.setIfInBounds_toArray, List.set_cons_zero, List.set_cons_succ]
                  refine takeY (oi := { dst := some 58, op := Op.move (Operand.tmp 57), type := 4, pos := "ref.go:124", after := #[{ on := 3, ground := Ground.data }, { on := 2, ground := Ground.chain }], guard := none }) 4 (some 58) (v := ?v4_2) rfl rfl (by kernel_rfl) (by kernel_rfl) (by kernel_rfl) (fun _ _ _ h => h) (by kernel_rfl) ?hy2 hH1 ?_
                  case hy2 => (intro w_ hSw; (try dsimp only at hSw); (have k0 := blk_cell hSw.1 0; (try have k1 := hSw.2); go_simp; (first | done | with_reducible rfl | rw [if_neg (by omega)])))
                  simp only [Act.put, List.setIfInBounds_toArray, List.set_cons_zero, List.set_cons_succ]
                  refine takeN 5 (some 59) rfl (by kernel_rfl) (by kernel_rfl) (by kernel_rfl) (by kernel_rfl) (fun _ _ _ h => h) (by kernel_rfl) hH1 ?_
                  simp only [Act.put, List.setIfInBounds_toArray, List.set_cons_zero, List.set_cons_succ]
                  refine takeN 6 (some 60) rfl (by kernel_rfl) (by kernel_rfl) (by kernel_rfl) (by kernel_rfl) (fun _ _ _ h => h) (by kernel_rfl) hH1 ?_
                  simp only [Act.put, List.setIfInBounds_toArray, List.set_cons_zero, List.set_cons_succ]
                  refine takeN 7 (some 61) rfl (by kernel_rfl) (by kernel_rfl) (by kernel_rfl) (by kernel_rfl) (fun _ _ _ h => h) (by kernel_rfl) hH1 ?_
                  simp only [Act.put, List.setIfInBounds_toArray, List.set_cons_zero, List.set_cons_succ]
                  refine takeN 8 (some 62) rfl (by kernel_rfl) (by kernel_rfl) (by kernel_rfl) (by kernel_rfl) (fun _ _ _ h => h) (by kernel_rfl) hH1 ?_
                  simp only [Act.put, List.setIfInBounds_toArray, List.set_cons_zero, List.set_cons_succ]
                  refine takeN 9 (some 63) rfl (by kernel_rfl) (by kernel_rfl) (by kernel_rfl) (by kernel_rfl) (fun _ _ _ h => h) (by kernel_rfl) hH1 ?_
                  simp only [Act.put, List.setIfInBounds_toArray, List.set_cons_zero, List.set_cons_succ]
                  refine takeN 10 (some 64) rfl (by kernel_rfl) (by kernel_rfl) (by kernel_rfl) (by kernel_rfl) (fun _ _ _ h => h) (by kernel_rfl) hH1 ?_
                  simp only [Act.put, List.setIfInBounds_toArray, List.set_cons_zero, List.set_cons_succ]
                  refine takeN 11 (some 65) rfl (by kernel_rfl) (by kernel_rfl) (by kernel_rfl) (by kernel_rfl) (fun _ _ _ h => h) (by kernel_rfl) hH1 ?_
                  simp only [Act.put, List.setIfInBounds_toArray, List.set_cons_zero, List.set_cons_succ]
                  refine takeN 12 (some 66) rfl (by kernel_rfl) (by kernel_rfl) (by kernel_rfl) (by kernel_rfl) (fun _ _ _ h => h) (by kernel_rfl) hH1 ?_
                  simp only [Act.put, List.setIfInBounds_toArray, List.set_cons_zero, List.set_cons_succ]
                  refine takeN 13 (some 67) rfl (by kernel_rfl) (by kernel_rfl) (by kernel_rfl) (by kernel_rfl) (fun _ _ _ h => h) (by kernel_rfl) hH1 ?_
                  simp only [Act.put, List.setIfInBounds_toArray, List.set_cons_zero, List.set_cons_succ]
                  refine takeN 14 (some 68) rfl (by kernel_rfl) (by kernel_rfl) (by kernel_rfl) (by kernel_rfl) (fun _ _ _ h => h) (by kernel_rfl) hH1 ?_
                  simp only [Act.put, List.setIfInBounds_toArray, List.set_cons_zero, List.set_cons_succ]
                  refine takeN 15 (some 69) rfl (by kernel_rfl) (by kernel_rfl) (by kernel_rfl) (by kernel_rfl) (fun _ _ _ h => h) (by kernel_rfl) hH1 ?_
                  simp only [Act.put, List.setIfInBounds_toArray, List.set_cons_zero, List.set_cons_succ]
                  refine takeN 16 (some 70) rfl (by kernel_rfl) (by kernel_rfl) (by kernel_rfl) (by kernel_rfl) (fun _ _ _ h => h) (by kernel_rfl) hH1 ?_
                  simp only [Act.put, List.setIfInBounds_toArray, List.set_cons_zero, List.set_cons_succ]
                  refine takeN 17 (some 71) rfl (by kernel_rfl) (by kernel_rfl) (by kernel_rfl) (by kernel_rfl) (fun _ _ _ h => h) (by kernel_rfl) hH1 ?_
                  simp only [Act.put, List.setIfInBounds_toArray, List.set_cons_zero, List.set_cons_succ]
                  refine takeN 18 (some 72) rfl (by kernel_rfl) (by kernel_rfl) (by kernel_rfl) (by kernel_rfl) (fun _ _ _ h => h) (by kernel_rfl) hH1 ?_
                  simp only [Act.put, List.setIfInBounds_toArray, List.set_cons_zero, List.set_cons_succ]
                  refine takeY (oi := { dst := some 73, op := Op.pick (Operand.tmp 58) (Operand.const (Value.bool true)) (Operand.tmp 72), type := 4, pos := "ref.go:124", after := #[{ on := 4, ground := Ground.data }, { on := 18, ground := Ground.data }], guard := none }) 19 (some 73) (v := ?v19_2) rfl rfl (by kernel_rfl) (by kernel_rfl) (by kernel_rfl) (fun _ _ _ h => h) (by kernel_rfl) ?hy2 hH1 ?_
                  case hy2 => (intro w_ hSw; (try dsimp only at hSw); (have k0 := blk_cell hSw.1 0; (try have k1 := hSw.2); go_simp; (first | done | with_reducible rfl | rw [if_neg (by omega)])))
                  simp only [Act.put, List.setIfInBounds_toArray, List.set_cons_zero, List.set_cons_succ]
                  refine wpAnyH_done (by kernel_rfl) ?_ _
                  have hEnd := hH1
                  clear hH1
                  have HZ := Lib.hid hEnd
                  go_wp2
                  refine bodyPost_ret (v := .tuple #[.slice none 0 0, .int .i64 0, .int .i64 (30)]) (by simp [results, Try.results108, go_sem]) rfl ⟨_, by rw [← HI2.out, HE.out], by rw [← HI2.out, HE.out]; exact Kd.R_nil _ _ _ _ _, HZ.out.2.2.1⟩
                | true =>
                  obtain ⟨⟨⟨v0, v1, v2⟩, m, e⟩, hr⟩ : ∃ r, takeV (b.drop (a + 1 + key.size)) = r := ⟨_, rfl⟩
                  have HVV := Lib.hid hr; clear hr
                  by_cases hcap2 : c = a + 1 + key.size
                  · have HV := Lib.hid (fun W => rtake_end (W := W) (ad := ad) (b := b) (c := c) (a1 := a + 1 + key.size) (by omega) hle hcap2 HVV.out)
                    have HV0 := Lib.hid (fun W => rtake_end0 (W := W) (ad := ad) (b := b) (c := c) (a1 := a + 1 + key.size) (by omega) hle hcap2 HVV.out)
                    have he : ¬ e = 0 := by
                      intro h
                      have h2 := HVV.out
                      rw [List.drop_eq_nil_of_le (by omega)] at h2
                      simp only [takeV, Prod.mk.injEq] at h2
                      omega
                    subst hcap2
                    have hks0 : ¬ key.size = 0 := by omega
                    have hks1 : 0 < key.size := by omega
                    cases i with
                    | zero =>
                      have HE : Hid (tpGo b (x.toNat - (0 + 1) + 1) out a = ([], 0, e)) := Lib.hid (tpGo_bad (by rw [HK.out]; omega) (by rw [HKY.out, hN]; obtain rfl : out = [] := List.eq_nil_of_length_eq_zero HOL.out; simp [orderBad]) (by rw [HK.out]; exact HVV.out) he)
                      go_wp2_with fail
                      refine wp_region_held_drew (S := (fun w' => Blk w' wr.heap.size #[.string key, .int .i64 0, .int .i64 0, .string ⟨#[]⟩] 117 ∧ kPrp.R 117 w' w.heap.size (fun k => k < wr.heap.size) (.slice A5 out.length c5) out ∧ Below w.heap.size w w' ∧ Below wr.heap.size wr w')) (by kernel_rfl) ?hS3 (fun hH0 => ?_)
                      case hS3 => exact ⟨blk_drew (blk_new wr _ _), Kd.R_drew (Kd.R_alloc (Kd.R_mono (Kd.R_bound HR.out) (fun k hk => hk.2.2.1)) _), below_drew (keepB0 (below_al _ _) HB.out), below_drew (below_al _ _)⟩
                      refine takeY (oi := { dst := some 54, op := Op.fieldAddr 117 (Operand.tmp 10) 0, type := 0, pos := "ref.go:124", after := #[], guard := none }) 0 (some 54) (v := ?v0_3) rfl rfl (by kernel_rfl) (by kernel_rfl) (by kernel_rfl) (fun _ _ _ h => h) (by kernel_rfl) ?hy3 hH0 ?_
                      case hy3 => (intro w_ hSw; (try dsimp only at hSw); (have k0 := blk_cell hSw.1 0; (try have k1 := hSw.2); go_simp; (first | done | with_reducible rfl | rw [if_neg (by omega)])))
                      simp only [Act.put, List.setIfInBounds_toArray, List.set_cons_zero, List.set_cons_succ]
                      refine takeY (oi := { dst := some 55, op := Op.load 9 (Operand.tmp 54), type := 9, pos := "ref.go:124", after := #[{ on := 0, ground := Ground.data }], guard := none }) 1 (some 55) (v := ?v1_3) rfl rfl (by kernel_rfl) (by kernel_rfl) (by kernel_rfl) (fun _ _ _ h => h) (by kernel_rfl) ?hy3 hH0 ?_
                      case hy3 => (intro w_ hSw; (try dsimp only at hSw); (have k0 := blk_cell hSw.1 0; (try have k1 := hSw.2); go_simp; (first | done | with_reducible rfl | rw [if_neg (by omega)])))
                      simp only [Act.put, List.setIfInBounds_toArray, List.set_cons_zero, List.set_cons_succ]
                      refine wpAnyH_ready (rs := [2]) (by kernel_rfl) (by simp) ?_
                      refine AllReadyH.cons (o := { dst := some 56, op := Op.call { callee := Callee.value (Operand.func 67), args := #[Operand.tmp 55], argTypes := #[9] }, type := 4, pos := "ref.go:124", after := #[{ on := 1, ground := Ground.data }], guard := none }) rfl (fun K1 hK1 => ?_) AllReadyH.nil
                      go_simp; refine (ref01_Right_calls key _ (by first | omega | decide)).mono ?_; rw [hN]; rintro e w2 ⟨rfl, hb2⟩
                      refine hK1.out _ _ ?hS3 (fun hH1 => ?_)
                      case hS3 => ((try dsimp only); (exact ⟨blk_below hb2 hH0.1, Kd.R_below hH0.2.1 hb2, keepB0 hb2 hH0.2.2.1, keepB0 hb2 hH0.2.2.2⟩))
                      clear hK1 K1
                      (try clear hH0)
                      (try simp only [Act.put, List.setIfInBounds_toArray, List.set_cons_zero, List.set_cons_succ])
                      refine takeY (oi := { dst := some 57, op := Op.unOp UnOp.not 4 (Operand.tmp 56), type := 4, pos := "ref.go:124", after := #[{ on := 2, ground := Ground.data }], guard := none }) 3 (some 57) (v := ?v3_3) rfl rfl (by kernel_rfl) (by kernel_rfl) (by kernel_rfl) (fun _ _ _ h => h) (by kernel_rfl) ?hy3 hH1 ?_
                      case hy3 => (intro w_ hSw; (try dsimp only at hSw); (have k0 := blk_cell hSw.1 0; (try have k1 := hSw.2); go_simp; (first | done | with_reducible rfl | rw [if_neg (by omega)])))
                      simp only [Act.put, List.setIfInBounds_toArray, List.set_cons_zero, List.set_cons_succ]
                      refine takeY (oi := { dst := some 58, op := Op.move (Operand.tmp 57), type := 4, pos := "ref.go:124", after := #[{ on := 3, ground := Ground.data }, { on := 2, ground := Ground.chain }], guard := none }) 4 (some 58) (v := ?v4_3) rfl rfl (by kernel_rfl) (by kernel_rfl) (by kernel_rfl) (fun _ _ _ h => h) (by kernel_rfl) ?hy3 hH1 ?_
                      case hy3 => (intro w_ hSw; (try dsimp only at hSw); (have k0 := blk_cell hSw.1 0; (try have k1 := hSw.2); go_simp; (first | done | with_reducible rfl | rw [if_neg (by omega)])))
                      simp only [Act.put, List.setIfInBounds_toArray, List.set_cons_zero, List.set_cons_succ]
                      refine takeY (oi := { dst := some 59, op := Op.move (Operand.tmp 8), type := 3, pos := "ref.go:124", after := #[{ on := 4, ground := Ground.guard }], guard := some (4, false) }) 5 (some 59) (v := ?v5_3) rfl rfl (by kernel_rfl) (by kernel_rfl) (by kernel_rfl) (fun _ _ _ h => h) (by kernel_rfl) ?hy3 hH1 ?_
                      case hy3 => (intro w_ hSw; (try dsimp only at hSw); (have k0 := blk_cell hSw.1 0; (try have k1 := hSw.2); go_simp; (first | done | with_reducible rfl | rw [if_neg (by omega)])))
                      simp only [Act.put, List.setIfInBounds_toArray, List.set_cons_zero, List.set_cons_succ]
                      refine takeY (oi := { dst := some 60, op := Op.binOp BinOp.gtr 3 (Operand.tmp 59) (Operand.const (Value.int IntKind.i64 0)) 3, type := 4, pos := "ref.go:124", after := #[{ on := 5, ground := Ground.data }, { on := 4, ground := Ground.guard }], guard := some (4, false) }) 6 (some 60) (v := ?v6_3) rfl rfl (by kernel_rfl) (by kernel_rfl) (by kernel_rfl) (fun _ _ _ h => h) (by kernel_rfl) ?hy3 hH1 ?_
                      case hy3 => (intro w_ hSw; (try dsimp only at hSw); (have k0 := blk_cell hSw.1 0; (try have k1 := hSw.2); go_simp; (first | done | with_reducible rfl | rw [if_neg (by omega)])))
                      simp only [Act.put, List.setIfInBounds_toArray, List.set_cons_zero, List.set_cons_succ]
                      refine takeY (oi := { dst := some 61, op := Op.move (Operand.tmp 60), type := 4, pos := "ref.go:124", after := #[{ on := 6, ground := Ground.data }, { on := 4, ground := Ground.chain }, { on := 4, ground := Ground.guard }], guard := some (4, false) }) 7 (some 61) (v := ?v7_3) rfl rfl (by kernel_rfl) (by kernel_rfl) (by kernel_rfl) (fun _ _ _ h => h) (by kernel_rfl) ?hy3 hH1 ?_
                      case hy3 => (intro w_ hSw; (try dsimp only at hSw); (have k0 := blk_cell hSw.1 0; (try have k1 := hSw.2); go_simp; (first | done | with_reducible rfl | rw [if_neg (by omega)])))
                      simp only [Act.put, List.setIfInBounds_toArray, List.set_cons_zero, List.set_cons_succ]
                      refine takeN 8 (some 62) rfl (by kernel_rfl) (by kernel_rfl) (by kernel_rfl) (by kernel_rfl) (fun _ _ _ h => h) (by kernel_rfl) hH1 ?_
                      simp only [Act.put, List.setIfInBounds_toArray, List.set_cons_zero, List.set_cons_succ]
                      refine takeN 9 (some 63) rfl (by kernel_rfl) (by kernel_rfl) (by kernel_rfl) (by kernel_rfl) (fun _ _ _ h => h) (by kernel_rfl) hH1 ?_
                      simp only [Act.put, List.setIfInBounds_toArray, List.set_cons_zero, List.set_cons_succ]
                      refine takeN 10 (some 64) rfl (by kernel_rfl) (by kernel_rfl) (by kernel_rfl) (by kernel_rfl) (fun _ _ _ h => h) (by kernel_rfl) hH1 ?_
                      simp only [Act.put, List.setIfInBounds_toArray, List.set_cons_zero, List.set_cons_succ]
                      refine takeN 11 (some 65) rfl (by kernel_rfl) (by kernel_rfl) (by kernel_rfl) (by kernel_rfl) (fun _ _ _ h => h) (by kernel_rfl) hH1 ?_
                      simp only [Act.put, List.setIfInBounds_toArray, List.set_cons_zero, List.set_cons_succ]
                      refine takeN 12 (some 66) rfl (by kernel_rfl) (by kernel_rfl) (by kernel_rfl) (by kernel_rfl) (fun _ _ _ h => h) (by kernel_rfl) hH1 ?_
                      simp only [Act.put, List.setIfInBounds_toArray, List.set_cons_zero, List.set_cons_succ]
                      refine takeN 13 (some 67) rfl (by kernel_rfl) (by kernel_rfl) (by kernel_rfl) (by kernel_rfl) (fun _ _ _ h => h) (by kernel_rfl) hH1 ?_
                      simp only [Act.put, List.setIfInBounds_toArray, List.set_cons_zero, List.set_cons_succ]
                      refine takeN 14 (some 68) rfl (by kernel_rfl) (by kernel_rfl) (by kernel_rfl) (by kernel_rfl) (fun _ _ _ h => h) (by kernel_rfl) hH1 ?_
                      simp only [Act.put, List.setIfInBounds_toArray, List.set_cons_zero, List.set_cons_succ]
                      refine takeN 15 (some 69) rfl (by kernel_rfl) (by kernel_rfl) (by kernel_rfl) (by kernel_rfl) (fun _ _ _ h => h) (by kernel_rfl) hH1 ?_
                      simp only [Act.put, List.setIfInBounds_toArray, List.set_cons_zero, List.set_cons_succ]
                      refine takeN 16 (some 70) rfl (by kernel_rfl) (by kernel_rfl) (by kernel_rfl) (by kernel_rfl) (fun _ _ _ h => h) (by kernel_rfl) hH1 ?_
                      simp only [Act.put, List.setIfInBounds_toArray, List.set_cons_zero, List.set_cons_succ]
                      refine takeN 17 (some 71) rfl (by kernel_rfl) (by kernel_rfl) (by kernel_rfl) (by kernel_rfl) (fun _ _ _ h => h) (by kernel_rfl) hH1 ?_
                      simp only [Act.put, List.setIfInBounds_toArray, List.set_cons_zero, List.set_cons_succ]
                      refine takeY (oi := { dst := some 72, op := Op.pick (Operand.tmp 61) (Operand.tmp 71) (Operand.const (Value.bool false)), type := 4, pos := "ref.go:124", after := #[{ on := 7, ground := Ground.data }, { on := 17, ground := Ground.data }, { on := 4, ground := Ground.guard }], guard := some (4, false) }) 18 (some 72) (v := ?v18_3) rfl rfl (by kernel_rfl) (by kernel_rfl) (by kernel_rfl) (fun _ _ _ h => h) (by kernel_rfl) ?hy3 hH1 ?_
                      case hy3 => (intro w_ hSw; (try dsimp only at hSw); (have k0 := blk_cell hSw.1 0; (try have k1 := hSw.2); go_simp; (first | done | with_reducible rfl | rw [if_neg (by omega)])))
                      simp only [Act.put, List.setIfInBounds_toArray, List.set_cons_zero, List.set_cons_succ]
                      refine takeY (oi := { dst := some 73, op := Op.pick (Operand.tmp 58) (Operand.const (Value.bool true)) (Operand.tmp 72), type := 4, pos := "ref.go:124", after := #[{ on := 4, ground := Ground.data }, { on := 18, ground := Ground.data }], guard := none }) 19 (some 73) (v := ?v19_3) rfl rfl (by kernel_rfl) (by kernel_rfl) (by kernel_rfl) (fun _ _ _ h => h) (by kernel_rfl) ?hy3 hH1 ?_
                      case hy3 => (intro w_ hSw; (try dsimp only at hSw); (have k0 := blk_cell hSw.1 0; (try have k1 := hSw.2); go_simp; (first | done | with_reducible rfl | rw [if_neg (by omega)])))
                      simp only [Act.put, List.setIfInBounds_toArray, List.set_cons_zero, List.set_cons_succ]
                      refine wpAnyH_done (by kernel_rfl) ?_ _
                      have hEnd := hH1
                      clear hH1
                      have HZ := Lib.hid hEnd
                      clear hEnd
                      go_wp2_with (go_at_call 128; (first | (with_reducible refine (HV.out _).mono ?_) | (with_reducible refine (HV0.out _).mono ?_)); rintro e' w4 ⟨rfl, hb4⟩; have HB4 := Lib.hid (keepB0 hb4 HZ.out.2.2.1); have K4 := blk_alloc (blk_below hb4 HZ.out.1) (.cells #[.int .i64 v0, .int .i64 v1, .string v2] 42); have HR4 := Lib.hid (Kd.R_alloc (Kd.R_below HZ.out.2.1 hb4) (.cells #[.int .i64 v0, .int .i64 v1, .string v2] 42)); clear hb4; have HK4 := Lib.hid K4; clear K4; have z1 : (w4.alloc (.cells #[.int .i64 v0, .int .i64 v1, .string v2] 42)).cell? ⟨wr.heap.size, 1, none⟩ = some (.int .i64 0) := blk_cell HK4.out 1; have z2 : (w4.alloc (.cells #[.int .i64 v0, .int .i64 v1, .string v2] 42)).cell? ⟨wr.heap.size, 2, none⟩ = some (.int .i64 0) := blk_cell HK4.out 2; have z3 : (w4.alloc (.cells #[.int .i64 v0, .int .i64 v1, .string v2] 42)).cell? ⟨wr.heap.size, 3, none⟩ = some (.string ⟨#[]⟩) := blk_cell HK4.out 3; have t1 := blk_frozen HK4.out 1; have t2 := blk_frozen HK4.out 2; have t3 := blk_frozen HK4.out 3; have K5 := blk_set (blk_set (blk_set HK4.out 1 (.int .i64 v0)) 2 (.int .i64 v1)) 3 (.string v2); have u0 := blk_cell K5 0; have u1 := blk_cell K5 1; have u2 := blk_cell K5 2; have u3 := blk_cell K5 3; clear K5; simp only [List.setIfInBounds_toArray, List.set_cons_succ, List.set_cons_zero, List.getElem?_toArray, List.getElem?_cons_zero, List.getElem?_cons_succ] at u0 u1 u2 u3; have HR5 := Lib.hid (Kd.R_mono (ok' := fun _ => True) (Kd.R_far (p := ⟨wr.heap.size, 3, none⟩) (Kd.R_far (p := ⟨wr.heap.size, 2, none⟩) (Kd.R_far (p := ⟨wr.heap.size, 1, none⟩) HR4.out (fun k hk => Nat.ne_of_lt hk) (.int .i64 v0)) (fun k hk => Nat.ne_of_lt hk) (.int .i64 v1)) (fun k hk => Nat.ne_of_lt hk) (.string v2)) (fun _ _ => trivial)); have HB5 := Lib.hid ((((keepB0 (below_al _ (.cells #[.int .i64 v0, .int .i64 v1, .string v2] 42)) HB4.out).setCell (p := ⟨wr.heap.size, 1, none⟩) HB.out.size (.int .i64 v0)).setCell (p := ⟨wr.heap.size, 2, none⟩) HB.out.size (.int .i64 v1)).setCell (p := ⟨wr.heap.size, 3, none⟩) HB.out.size (.string v2)))
                      refine bodyPost_ret (v := .tuple #[.slice none 0 0, .int .i64 0, .int .i64 (e)]) (by simp [results, Try.results108, go_sem]) rfl ⟨_, by rw [← HI2.out, HE.out], by rw [← HI2.out, HE.out]; exact Kd.R_nil _ _ _ _ _, keepB0 (below_al _ _) HB4.out⟩
                    | succ j =>
                      have hjo : (j : Int) < (out.length : Int) := by rw [HOL.out]; omega
                      have hjo2 : j < out.length := by omega
                      obtain ⟨ad5, e5, f0, -, -, -⟩ := at_Prp HC5.out (j : Int) (by omega) (by rw [HOL.out]; omega)
                      subst e5
                      simp only [Int.toNat_natCast, rd_Prp] at f0
                      have hpm := HF.out (out.getD j zPrp) (by rw [List.getD_eq_getElem?_getD, List.getElem?_eq_getElem (by rw [HOL.out]; omega)]; exact List.getElem_mem _)
                      have HLast := Lib.hid (orderBad_at (out := out) (j := j) (key := key) HOL.out)
                      have hwj1 : IntKind.i64.wrap (j : Int) = (j : Int) := IntWalk.i64_in _ (by omega)
                      have hwj2 : (0 : Int) ≤ (j : Int) := by omega
                      generalize (out.getD j zPrp).f0 = p0 at f0 HLast hpm
                      cases hO : decide (0 ≤ cmpS p0 key) with
                      | true =>
                        have HE : Hid (tpGo b (x.toNat - (j + 1 + 1) + 1) out a = ([], 0, 30)) := Lib.hid (tpGo_name (by rw [HK.out]; omega) (.inr (by rw [HKY.out, HLast.out, hO])))
                        go_wp2_with fail
                        refine wp_region_held_drew (S := (fun w' => (Blk w' wr.heap.size #[.string key, .int .i64 0, .int .i64 0, .string ⟨#[]⟩] 117 ∧ kPrp.R 117 w' w.heap.size (fun k => k < wr.heap.size) (.slice (some ad5) out.length c5) out ∧ Below w.heap.size w w' ∧ Below wr.heap.size wr w') ∧ w'.cell? (ad5.add (j * 4)) = some (.string p0))) (by kernel_rfl) ?hS4 (fun hH0 => ?_)
                        case hS4 => exact ⟨⟨blk_drew (blk_new wr _ _), Kd.R_drew (Kd.R_alloc (Kd.R_mono (Kd.R_bound HR.out) (fun k hk => hk.2.2.1)) _), below_drew (keepB0 (below_al _ _) HB.out), below_drew (below_al _ _)⟩, pw_cell_below (below_drew (below_al _ _)) f0⟩
                        refine takeY (oi := { dst := some 54, op := Op.fieldAddr 117 (Operand.tmp 10) 0, type := 0, pos := "ref.go:124", after := #[], guard := none }) 0 (some 54) (v := ?v0_4) rfl rfl (by kernel_rfl) (by kernel_rfl) (by kernel_rfl) (fun _ _ _ h => h) (by kernel_rfl) ?hy4 hH0 ?_
                        case hy4 => (intro w_ hSw; (try dsimp only at hSw); (have k0 := blk_cell hSw.1.1 0; (try have k1 := hSw.2); go_simp; (first | done | with_reducible rfl | rw [if_neg (by omega)])))
                        simp only [Act.put, List.setIfInBounds_toArray, List.set_cons_zero, List.set_cons_succ]
                        refine takeY (oi := { dst := some 55, op := Op.load 9 (Operand.tmp 54), type := 9, pos := "ref.go:124", after := #[{ on := 0, ground := Ground.data }], guard := none }) 1 (some 55) (v := ?v1_4) rfl rfl (by kernel_rfl) (by kernel_rfl) (by kernel_rfl) (fun _ _ _ h => h) (by kernel_rfl) ?hy4 hH0 ?_
                        case hy4 => (intro w_ hSw; (try dsimp only at hSw); (have k0 := blk_cell hSw.1.1 0; (try have k1 := hSw.2); go_simp; (first | done | with_reducible rfl | rw [if_neg (by omega)])))
                        simp only [Act.put, List.setIfInBounds_toArray, List.set_cons_zero, List.set_cons_succ]
                        refine wpAnyH_ready (rs := [2]) (by kernel_rfl) (by simp) ?_
                        refine AllReadyH.cons (o := { dst := some 56, op := Op.call { callee := Callee.value (Operand.func 67), args := #[Operand.tmp 55], argTypes := #[9] }, type := 4, pos := "ref.go:124", after := #[{ on := 1, ground := Ground.data }], guard := none }) rfl (fun K1 hK1 => ?_) AllReadyH.nil
                        go_simp; refine (ref01_Right_calls key _ (by first | omega | decide)).mono ?_; rw [hN]; rintro e w2 ⟨rfl, hb2⟩
                        refine hK1.out _ _ ?hS4 (fun hH1 => ?_)
                        case hS4 => ((try dsimp only); (exact ⟨⟨blk_below hb2 hH0.1.1, Kd.R_below hH0.1.2.1 hb2, keepB0 hb2 hH0.1.2.2.1, keepB0 hb2 hH0.1.2.2.2⟩, pw_cell_below hb2 hH0.2⟩))
                        clear hK1 K1
                        (try clear hH0)
                        (try simp only [Act.put, List.setIfInBounds_toArray, List.set_cons_zero, List.set_cons_succ])
                        refine takeY (oi := { dst := some 57, op := Op.unOp UnOp.not 4 (Operand.tmp 56), type := 4, pos := "ref.go:124", after := #[{ on := 2, ground := Ground.data }], guard := none }) 3 (some 57) (v := ?v3_4) rfl rfl (by kernel_rfl) (by kernel_rfl) (by kernel_rfl) (fun _ _ _ h => h) (by kernel_rfl) ?hy4 hH1 ?_
                        case hy4 => (intro w_ hSw; (try dsimp only at hSw); (have k0 := blk_cell hSw.1.1 0; (try have k1 := hSw.2); go_simp; (first | done | with_reducible rfl | rw [if_neg (by omega)])))
                        simp only [Act.put, List.setIfInBounds_toArray, List.set_cons_zero, List.set_cons_succ]
                        refine takeY (oi := { dst := some 58, op := Op.move (Operand.tmp 57), type := 4, pos := "ref.go:124", after := #[{ on := 3, ground := Ground.data }, { on := 2, ground := Ground.chain }], guard := none }) 4 (some 58) (v := ?v4_4) rfl rfl (by kernel_rfl) (by kernel_rfl) (by kernel_rfl) (fun _ _ _ h => h) (by kernel_rfl) ?hy4 hH1 ?_
                        case hy4 => (intro w_ hSw; (try dsimp only at hSw); (have k0 := blk_cell hSw.1.1 0; (try have k1 := hSw.2); go_simp; (first | done | with_reducible rfl | rw [if_neg (by omega)])))
                        simp only [Act.put, List.setIfInBounds_toArray, List.set_cons_zero, List.set_cons_succ]
                        refine takeY (oi := { dst := some 59, op := Op.move (Operand.tmp 8), type := 3, pos := "ref.go:124", after := #[{ on := 4, ground := Ground.guard }], guard := some (4, false) }) 5 (some 59) (v := ?v5_4) rfl rfl (by kernel_rfl) (by kernel_rfl) (by kernel_rfl) (fun _ _ _ h => h) (by kernel_rfl) ?hy4 hH1 ?_
                        case hy4 => (intro w_ hSw; (try dsimp only at hSw); (have k0 := blk_cell hSw.1.1 0; (try have k1 := hSw.2); go_simp; (first | done | with_reducible rfl | rw [if_neg (by omega)])))
                        simp only [Act.put, List.setIfInBounds_toArray, List.set_cons_zero, List.set_cons_succ]
                        refine takeY (oi := { dst := some 60, op := Op.binOp BinOp.gtr 3 (Operand.tmp 59) (Operand.const (Value.int IntKind.i64 0)) 3, type := 4, pos := "ref.go:124", after := #[{ on := 5, ground := Ground.data }, { on := 4, ground := Ground.guard }], guard := some (4, false) }) 6 (some 60) (v := ?v6_4) rfl rfl (by kernel_rfl) (by kernel_rfl) (by kernel_rfl) (fun _ _ _ h => h) (by kernel_rfl) ?hy4 hH1 ?_
                        case hy4 => (intro w_ hSw; (try dsimp only at hSw); (have k0 := blk_cell hSw.1.1 0; (try have k1 := hSw.2); go_simp; (first | done | with_reducible rfl | rw [if_neg (by omega)])))
                        simp only [Act.put, List.setIfInBounds_toArray, List.set_cons_zero, List.set_cons_succ]
                        refine takeY (oi := { dst := some 61, op := Op.move (Operand.tmp 60), type := 4, pos := "ref.go:124", after := #[{ on := 6, ground := Ground.data }, { on := 4, ground := Ground.chain }, { on := 4, ground := Ground.guard }], guard := some (4, false) }) 7 (some 61) (v := ?v7_4) rfl rfl (by kernel_rfl) (by kernel_rfl) (by kernel_rfl) (fun _ _ _ h => h) (by kernel_rfl) ?hy4 hH1 ?_
                        case hy4 => (intro w_ hSw; (try dsimp only at hSw); (have k0 := blk_cell hSw.1.1 0; (try have k1 := hSw.2); go_simp; (first | done | with_reducible rfl | rw [if_neg (by omega)])))
                        simp only [Act.put, List.setIfInBounds_toArray, List.set_cons_zero, List.set_cons_succ]
                        refine takeY (oi := { dst := some 62, op := Op.move (Operand.tmp 6), type := 22, pos := "ref.go:124", after := #[{ on := 7, ground := Ground.guard }], guard := some (7, true) }) 8 (some 62) (v := ?v8_4) rfl rfl (by kernel_rfl) (by kernel_rfl) (by kernel_rfl) (fun _ _ _ h => h) (by kernel_rfl) ?hy4 hH1 ?_
                        case hy4 => (intro w_ hSw; (try dsimp only at hSw); (have k0 := blk_cell hSw.1.1 0; (try have k1 := hSw.2); go_simp; (first | done | with_reducible rfl | rw [if_neg (by omega)])))
                        simp only [Act.put, List.setIfInBounds_toArray, List.set_cons_zero, List.set_cons_succ]
                        refine takeY (oi := { dst := some 63, op := Op.move (Operand.tmp 8), type := 3, pos := "ref.go:124", after := #[{ on := 7, ground := Ground.guard }], guard := some (7, true) }) 9 (some 63) (v := ?v9_4) rfl rfl (by kernel_rfl) (by kernel_rfl) (by kernel_rfl) (fun _ _ _ h => h) (by kernel_rfl) ?hy4 hH1 ?_
                        case hy4 => (intro w_ hSw; (try dsimp only at hSw); (have k0 := blk_cell hSw.1.1 0; (try have k1 := hSw.2); go_simp; (first | done | with_reducible rfl | rw [if_neg (by omega)])))
                        simp only [Act.put, List.setIfInBounds_toArray, List.set_cons_zero, List.set_cons_succ]
                        refine takeY (oi := { dst := some 64, op := Op.binOp BinOp.sub 3 (Operand.tmp 63) (Operand.const (Value.int IntKind.i64 1)) 3, type := 3, pos := "ref.go:124", after := #[{ on := 9, ground := Ground.data }, { on := 7, ground := Ground.guard }], guard := some (7, true) }) 10 (some 64) (v := ?v10_4) rfl rfl (by kernel_rfl) (by kernel_rfl) (by kernel_rfl) (fun _ _ _ h => h) (by kernel_rfl) ?hy4 hH1 ?_
                        case hy4 => (intro w_ hSw; (try dsimp only at hSw); (have k0 := blk_cell hSw.1.1 0; (try have k1 := hSw.2); go_simp; (first | done | with_reducible rfl | rw [if_neg (by omega)])))
                        simp only [Act.put, List.setIfInBounds_toArray, List.set_cons_zero, List.set_cons_succ]
                        refine takeY (oi := { dst := some 65, op := Op.indexAddr 22 (Operand.tmp 62) (Operand.tmp 64), type := 0, pos := "ref.go:124", after := #[{ on := 8, ground := Ground.data }, { on := 10, ground := Ground.data }, { on := 7, ground := Ground.guard }], guard := some (7, true) }) 11 (some 65) (v := ?v11_4) rfl rfl (by kernel_rfl) (by kernel_rfl) (by kernel_rfl) (fun _ _ _ h => h) (by kernel_rfl) ?hy4 hH1 ?_
                        case hy4 => (intro w_ hSw; (try dsimp only at hSw); (have k0 := blk_cell hSw.1.1 0; (try have k1 := hSw.2); go_simp; (first | done | with_reducible rfl | rw [if_neg (by omega)])))
                        simp only [Act.put, List.setIfInBounds_toArray, List.set_cons_zero, List.set_cons_succ]
                        refine takeY (oi := { dst := some 66, op := Op.fieldAddr 117 (Operand.tmp 65) 0, type := 0, pos := "ref.go:124", after := #[{ on := 11, ground := Ground.data }, { on := 7, ground := Ground.guard }], guard := some (7, true) }) 12 (some 66) (v := ?v12_4) rfl rfl (by kernel_rfl) (by kernel_rfl) (by kernel_rfl) (fun _ _ _ h => h) (by kernel_rfl) ?hy4 hH1 ?_
                        case hy4 => (intro w_ hSw; (try dsimp only at hSw); (have k0 := blk_cell hSw.1.1 0; (try have k1 := hSw.2); go_simp; (first | done | with_reducible rfl | rw [if_neg (by omega)])))
                        simp only [Act.put, List.setIfInBounds_toArray, List.set_cons_zero, List.set_cons_succ]
                        refine takeY (oi := { dst := some 67, op := Op.load 9 (Operand.tmp 66), type := 9, pos := "ref.go:124", after := #[{ on := 12, ground := Ground.data }, { on := 7, ground := Ground.guard }], guard := some (7, true) }) 13 (some 67) (v := ?v13_4) rfl rfl (by kernel_rfl) (by kernel_rfl) (by kernel_rfl) (fun _ _ _ h => h) (by kernel_rfl) ?hy4 hH1 ?_
                        case hy4 => (intro w_ hSw; (try dsimp only at hSw); (have k0 := blk_cell hSw.1.1 0; (try have k1 := hSw.2); go_simp; (first | done | with_reducible rfl | rw [if_neg (by omega)])))
                        simp only [Act.put, List.setIfInBounds_toArray, List.set_cons_zero, List.set_cons_succ]
                        refine takeY (oi := { dst := some 68, op := Op.fieldAddr 117 (Operand.tmp 10) 0, type := 0, pos := "ref.go:124", after := #[{ on := 7, ground := Ground.guard }], guard := some (7, true) }) 14 (some 68) (v := ?v14_4) rfl rfl (by kernel_rfl) (by kernel_rfl) (by kernel_rfl) (fun _ _ _ h => h) (by kernel_rfl) ?hy4 hH1 ?_
                        case hy4 => (intro w_ hSw; (try dsimp only at hSw); (have k0 := blk_cell hSw.1.1 0; (try have k1 := hSw.2); go_simp; (first | done | with_reducible rfl | rw [if_neg (by omega)])))
                        simp only [Act.put, List.setIfInBounds_toArray, List.set_cons_zero, List.set_cons_succ]
                        refine takeY (oi := { dst := some 69, op := Op.load 9 (Operand.tmp 68), type := 9, pos := "ref.go:124", after := #[{ on := 14, ground := Ground.data }, { on := 7, ground := Ground.guard }], guard := some (7, true) }) 15 (some 69) (v := ?v15_4) rfl rfl (by kernel_rfl) (by kernel_rfl) (by kernel_rfl) (fun _ _ _ h => h) (by kernel_rfl) ?hy4 hH1 ?_
                        case hy4 => (intro w_ hSw; (try dsimp only at hSw); (have k0 := blk_cell hSw.1.1 0; (try have k1 := hSw.2); go_simp; (first | done | with_reducible rfl | rw [if_neg (by omega)])))
                        simp only [Act.put, List.setIfInBounds_toArray, List.set_cons_zero, List.set_cons_succ]
                        refine wpAnyH_ready (rs := [16]) (by kernel_rfl) (by simp) ?_
                        refine AllReadyH.cons (o := { dst := some 70, op := Op.call { callee := Callee.value (Operand.func 106), args := #[Operand.tmp 67, Operand.tmp 69], argTypes := #[9, 9] }, type := 3, pos := "ref.go:124", after := #[{ on := 13, ground := Ground.data }, { on := 15, ground := Ground.data }, { on := 7, ground := Ground.chain }, { on := 7, ground := Ground.guard }], guard := some (7, true) }) rfl (fun K2 hK2 => ?_) AllReadyH.nil
                        go_simp; refine (ref01_Compare_calls p0 key _ (by omega) (by omega)).mono ?_; rintro e w3 ⟨rfl, hb3⟩
                        refine hK2.out _ _ ?hS4 (fun hH2 => ?_)
                        case hS4 => ((try dsimp only); (exact ⟨⟨blk_below hb3 hH1.1.1, Kd.R_below hH1.1.2.1 hb3, keepB0 hb3 hH1.1.2.2.1, keepB0 hb3 hH1.1.2.2.2⟩, pw_cell_below hb3 hH1.2⟩))
                        clear hK2 K2
                        (try clear hH1)
                        (try simp only [Act.put, List.setIfInBounds_toArray, List.set_cons_zero, List.set_cons_succ])
                        refine takeY (oi := { dst := some 71, op := Op.binOp BinOp.geq 3 (Operand.tmp 70) (Operand.const (Value.int IntKind.i64 0)) 3, type := 4, pos := "ref.go:124", after := #[{ on := 16, ground := Ground.data }, { on := 7, ground := Ground.guard }], guard := some (7, true) }) 17 (some 71) (v := ?v17_4) rfl rfl (by kernel_rfl) (by kernel_rfl) (by kernel_rfl) (fun _ _ _ h => h) (by kernel_rfl) ?hy4 hH2 ?_
                        case hy4 => (intro w_ hSw; (try dsimp only at hSw); (have k0 := blk_cell hSw.1.1 0; (try have k1 := hSw.2); go_simp; (first | done | with_reducible rfl | rw [if_neg (by omega)])))
                        simp only [Act.put, List.setIfInBounds_toArray, List.set_cons_zero, List.set_cons_succ]
                        refine takeY (oi := { dst := some 72, op := Op.pick (Operand.tmp 61) (Operand.tmp 71) (Operand.const (Value.bool false)), type := 4, pos := "ref.go:124", after := #[{ on := 7, ground := Ground.data }, { on := 17, ground := Ground.data }, { on := 4, ground := Ground.guard }], guard := some (4, false) }) 18 (some 72) (v := ?v18_4) rfl rfl (by kernel_rfl) (by kernel_rfl) (by kernel_rfl) (fun _ _ _ h => h) (by kernel_rfl) ?hy4 hH2 ?_
                        case hy4 => (intro w_ hSw; (try dsimp only at hSw); (have k0 := blk_cell hSw.1.1 0; (try have k1 := hSw.2); go_simp; (first | done | with_reducible rfl | rw [if_neg (by omega)])))
                        simp only [Act.put, List.setIfInBounds_toArray, List.set_cons_zero, List.set_cons_succ]
                        refine takeY (oi := { dst := some 73, op := Op.pick (Operand.tmp 58) (Operand.const (Value.bool true)) (Operand.tmp 72), type := 4, pos := "ref.go:124", after := #[{ on := 4, ground := Ground.data }, { on := 18, ground := Ground.data }], guard := none }) 19 (some 73) (v := ?v19_4) rfl rfl (by kernel_rfl) (by kernel_rfl) (by kernel_rfl) (fun _ _ _ h => h) (by kernel_rfl) ?hy4 hH2 ?_
                        case hy4 => (intro w_ hSw; (try dsimp only at hSw); (have k0 := blk_cell hSw.1.1 0; (try have k1 := hSw.2); go_simp; (first | done | with_reducible rfl | rw [if_neg (by omega)])))
                        simp only [Act.put, List.setIfInBounds_toArray, List.set_cons_zero, List.set_cons_succ]
                        refine wpAnyH_done (by kernel_rfl) ?_ _
                        have hEnd := hH2
                        clear hH2
                        have HZ := Lib.hid hEnd.1
                        clear hEnd
                        go_wp2
                        refine bodyPost_ret (v := .tuple #[.slice none 0 0, .int .i64 0, .int .i64 (30)]) (by simp [results, Try.results108, go_sem]) rfl ⟨_, by rw [← HI2.out, HE.out], by rw [← HI2.out, HE.out]; exact Kd.R_nil _ _ _ _ _, HZ.out.2.2.1⟩
                      | false =>
                        have HE : Hid (tpGo b (x.toNat - (j + 1 + 1) + 1) out a = ([], 0, e)) := Lib.hid (tpGo_bad (by rw [HK.out]; omega) (by rw [HKY.out, hN, HLast.out, hO]; simp) (by rw [HK.out]; exact HVV.out) he)
                        go_wp2_with fail
                        refine wp_region_held_drew (S := (fun w' => (Blk w' wr.heap.size #[.string key, .int .i64 0, .int .i64 0, .string ⟨#[]⟩] 117 ∧ kPrp.R 117 w' w.heap.size (fun k => k < wr.heap.size) (.slice (some ad5) out.length c5) out ∧ Below w.heap.size w w' ∧ Below wr.heap.size wr w') ∧ w'.cell? (ad5.add (j * 4)) = some (.string p0))) (by kernel_rfl) ?hS5 (fun hH0 => ?_)
                        case hS5 => exact ⟨⟨blk_drew (blk_new wr _ _), Kd.R_drew (Kd.R_alloc (Kd.R_mono (Kd.R_bound HR.out) (fun k hk => hk.2.2.1)) _), below_drew (keepB0 (below_al _ _) HB.out), below_drew (below_al _ _)⟩, pw_cell_below (below_drew (below_al _ _)) f0⟩
                        refine takeY (oi := { dst := some 54, op := Op.fieldAddr 117 (Operand.tmp 10) 0, type := 0, pos := "ref.go:124", after := #[], guard := none }) 0 (some 54) (v := ?v0_5) rfl rfl (by kernel_rfl) (by kernel_rfl) (by kernel_rfl) (fun _ _ _ h => h) (by kernel_rfl) ?hy5 hH0 ?_
                        case hy5 => (intro w_ hSw; (try dsimp only at hSw); (have k0 := blk_cell hSw.1.1 0; (try have k1 := hSw.2); go_simp; (first | done | with_reducible rfl | rw [if_neg (by omega)])))
                        simp only [Act.put, List.setIfInBounds_toArray, List.set_cons_zero, List.set_cons_succ]
                        refine takeY (oi := { dst := some 55, op := Op.load 9 (Operand.tmp 54), type := 9, pos := "ref.go:124", after := #[{ on := 0, ground := Ground.data }], guard := none }) 1 (some 55) (v := ?v1_5) rfl rfl (by kernel_rfl) (by kernel_rfl) (by kernel_rfl) (fun _ _ _ h => h) (by kernel_rfl) ?hy5 hH0 ?_
                        case hy5 => (intro w_ hSw; (try dsimp only at hSw); (have k0 := blk_cell hSw.1.1 0; (try have k1 := hSw.2); go_simp; (first | done | with_reducible rfl | rw [if_neg (by omega)])))
                        simp only [Act.put, List.setIfInBounds_toArray, List.set_cons_zero, List.set_cons_succ]
                        refine wpAnyH_ready (rs := [2]) (by kernel_rfl) (by simp) ?_
                        refine AllReadyH.cons (o := { dst := some 56, op := Op.call { callee := Callee.value (Operand.func 67), args := #[Operand.tmp 55], argTypes := #[9] }, type := 4, pos := "ref.go:124", after := #[{ on := 1, ground := Ground.data }], guard := none }) rfl (fun K1 hK1 => ?_) AllReadyH.nil
                        go_simp; refine (ref01_Right_calls key _ (by first | omega | decide)).mono ?_; rw [hN]; rintro e w2 ⟨rfl, hb2⟩
                        refine hK1.out _ _ ?hS5 (fun hH1 => ?_)
                        case hS5 => ((try dsimp only); (exact ⟨⟨blk_below hb2 hH0.1.1, Kd.R_below hH0.1.2.1 hb2, keepB0 hb2 hH0.1.2.2.1, keepB0 hb2 hH0.1.2.2.2⟩, pw_cell_below hb2 hH0.2⟩))
                        clear hK1 K1
                        (try clear hH0)
                        (try simp only [Act.put, List.setIfInBounds_toArray, List.set_cons_zero, List.set_cons_succ])
                        refine takeY (oi := { dst := some 57, op := Op.unOp UnOp.not 4 (Operand.tmp 56), type := 4, pos := "ref.go:124", after := #[{ on := 2, ground := Ground.data }], guard := none }) 3 (some 57) (v := ?v3_5) rfl rfl (by kernel_rfl) (by kernel_rfl) (by kernel_rfl) (fun _ _ _ h => h) (by kernel_rfl) ?hy5 hH1 ?_
                        case hy5 => (intro w_ hSw; (try dsimp only at hSw); (have k0 := blk_cell hSw.1.1 0; (try have k1 := hSw.2); go_simp; (first | done | with_reducible rfl | rw [if_neg (by omega)])))
                        simp only [Act.put, List.setIfInBounds_toArray, List.set_cons_zero, List.set_cons_succ]
                        refine takeY (oi := { dst := some 58, op := Op.move (Operand.tmp 57), type := 4, pos := "ref.go:124", after := #[{ on := 3, ground := Ground.data }, { on := 2, ground := Ground.chain }], guard := none }) 4 (some 58) (v := ?v4_5) rfl rfl (by kernel_rfl) (by kernel_rfl) (by kernel_rfl) (fun _ _ _ h => h) (by kernel_rfl) ?hy5 hH1 ?_
                        case hy5 => (intro w_ hSw; (try dsimp only at hSw); (have k0 := blk_cell hSw.1.1 0; (try have k1 := hSw.2); go_simp; (first | done | with_reducible rfl | rw [if_neg (by omega)])))
                        simp only [Act.put, List.setIfInBounds_toArray, List.set_cons_zero, List.set_cons_succ]
                        refine takeY (oi := { dst := some 59, op := Op.move (Operand.tmp 8), type := 3, pos := "ref.go:124", after := #[{ on := 4, ground := Ground.guard }], guard := some (4, false) }) 5 (some 59) (v := ?v5_5) rfl rfl (by kernel_rfl) (by kernel_rfl) (by kernel_rfl) (fun _ _ _ h => h) (by kernel_rfl) ?hy5 hH1 ?_
                        case hy5 => (intro w_ hSw; (try dsimp only at hSw); (have k0 := blk_cell hSw.1.1 0; (try have k1 := hSw.2); go_simp; (first | done | with_reducible rfl | rw [if_neg (by omega)])))
                        simp only [Act.put, List.setIfInBounds_toArray, List.set_cons_zero, List.set_cons_succ]
                        refine takeY (oi := { dst := some 60, op := Op.binOp BinOp.gtr 3 (Operand.tmp 59) (Operand.const (Value.int IntKind.i64 0)) 3, type := 4, pos := "ref.go:124", after := #[{ on := 5, ground := Ground.data }, { on := 4, ground := Ground.guard }], guard := some (4, false) }) 6 (some 60) (v := ?v6_5) rfl rfl (by kernel_rfl) (by kernel_rfl) (by kernel_rfl) (fun _ _ _ h => h) (by kernel_rfl) ?hy5 hH1 ?_
                        case hy5 => (intro w_ hSw; (try dsimp only at hSw); (have k0 := blk_cell hSw.1.1 0; (try have k1 := hSw.2); go_simp; (first | done | with_reducible rfl | rw [if_neg (by omega)])))
                        simp only [Act.put, List.setIfInBounds_toArray, List.set_cons_zero, List.set_cons_succ]
                        refine takeY (oi := { dst := some 61, op := Op.move (Operand.tmp 60), type := 4, pos := "ref.go:124", after := #[{ on := 6, ground := Ground.data }, { on := 4, ground := Ground.chain }, { on := 4, ground := Ground.guard }], guard := some (4, false) }) 7 (some 61) (v := ?v7_5) rfl rfl (by kernel_rfl) (by kernel_rfl) (by kernel_rfl) (fun _ _ _ h => h) (by kernel_rfl) ?hy5 hH1 ?_
                        case hy5 => (intro w_ hSw; (try dsimp only at hSw); (have k0 := blk_cell hSw.1.1 0; (try have k1 := hSw.2); go_simp; (first | done | with_reducible rfl | rw [if_neg (by omega)])))
                        simp only [Act.put, List.setIfInBounds_toArray, List.set_cons_zero, List.set_cons_succ]
                        refine takeY (oi := { dst := some 62, op := Op.move (Operand.tmp 6), type := 22, pos := "ref.go:124", after := #[{ on := 7, ground := Ground.guard }], guard := some (7, true) }) 8 (some 62) (v := ?v8_5) rfl rfl (by kernel_rfl) (by kernel_rfl) (by kernel_rfl) (fun _ _ _ h => h) (by kernel_rfl) ?hy5 hH1 ?_
                        case hy5 => (intro w_ hSw; (try dsimp only at hSw); (have k0 := blk_cell hSw.1.1 0; (try have k1 := hSw.2); go_simp; (first | done | with_reducible rfl | rw [if_neg (by omega)])))
                        simp only [Act.put, List.setIfInBounds_toArray, List.set_cons_zero, List.set_cons_succ]
                        refine takeY (oi := { dst := some 63, op := Op.move (Operand.tmp 8), type := 3, pos := "ref.go:124", after := #[{ on := 7, ground := Ground.guard }], guard := some (7, true) }) 9 (some 63) (v := ?v9_5) rfl rfl (by kernel_rfl) (by kernel_rfl) (by kernel_rfl) (fun _ _ _ h => h) (by kernel_rfl) ?hy5 hH1 ?_
                        case hy5 => (intro w_ hSw; (try dsimp only at hSw); (have k0 := blk_cell hSw.1.1 0; (try have k1 := hSw.2); go_simp; (first | done | with_reducible rfl | rw [if_neg (by omega)])))
                        simp only [Act.put, List.setIfInBounds_toArray, List.set_cons_zero, List.set_cons_succ]
                        refine takeY (oi := { dst := some 64, op := Op.binOp BinOp.sub 3 (Operand.tmp 63) (Operand.const (Value.int IntKind.i64 1)) 3, type := 3, pos := "ref.go:124", after := #[{ on := 9, ground := Ground.data }, { on := 7, ground := Ground.guard }], guard := some (7, true) }) 10 (some 64) (v := ?v10_5) rfl rfl (by kernel_rfl) (by kernel_rfl) (by kernel_rfl) (fun _ _ _ h => h) (by kernel_rfl) ?hy5 hH1 ?_
                        case hy5 => (intro w_ hSw; (try dsimp only at hSw); (have k0 := blk_cell hSw.1.1 0; (try have k1 := hSw.2); go_simp; (first | done | with_reducible rfl | rw [if_neg (by omega)])))
                        simp only [Act.put, List.setIfInBounds_toArray, List.set_cons_zero, List.set_cons_succ]
                        refine takeY (oi := { dst := some 65, op := Op.indexAddr 22 (Operand.tmp 62) (Operand.tmp 64), type := 0, pos := "ref.go:124", after := #[{ on := 8, ground := Ground.data }, { on := 10, ground := Ground.data }, { on := 7, ground := Ground.guard }], guard := some (7, true) }) 11 (some 65) (v := ?v11_5) rfl rfl (by kernel_rfl) (by kernel_rfl) (by kernel_rfl) (fun _ _ _ h => h) (by kernel_rfl) ?hy5 hH1 ?_
                        case hy5 => (intro w_ hSw; (try dsimp only at hSw); (have k0 := blk_cell hSw.1.1 0; (try have k1 := hSw.2); go_simp; (first | done | with_reducible rfl | rw [if_neg (by omega)])))
                        simp only [Act.put, List.setIfInBounds_toArray, List.set_cons_zero, List.set_cons_succ]
                        refine takeY (oi := { dst := some 66, op := Op.fieldAddr 117 (Operand.tmp 65) 0, type := 0, pos := "ref.go:124", after := #[{ on := 11, ground := Ground.data }, { on := 7, ground := Ground.guard }], guard := some (7, true) }) 12 (some 66) (v := ?v12_5) rfl rfl (by kernel_rfl) (by kernel_rfl) (by kernel_rfl) (fun _ _ _ h => h) (by kernel_rfl) ?hy5 hH1 ?_
                        case hy5 => (intro w_ hSw; (try dsimp only at hSw); (have k0 := blk_cell hSw.1.1 0; (try have k1 := hSw.2); go_simp; (first | done | with_reducible rfl | rw [if_neg (by omega)])))
                        simp only [Act.put, List.setIfInBounds_toArray, List.set_cons_zero, List.set_cons_succ]
                        refine takeY (oi := { dst := some 67, op := Op.load 9 (Operand.tmp 66), type := 9, pos := "ref.go:124", after := #[{ on := 12, ground := Ground.data }, { on := 7, ground := Ground.guard }], guard := some (7, true) }) 13 (some 67) (v := ?v13_5) rfl rfl (by kernel_rfl) (by kernel_rfl) (by kernel_rfl) (fun _ _ _ h => h) (by kernel_rfl) ?hy5 hH1 ?_
                        case hy5 => (intro w_ hSw; (try dsimp only at hSw); (have k0 := blk_cell hSw.1.1 0; (try have k1 := hSw.2); go_simp; (first | done | with_reducible rfl | rw [if_neg (by omega)])))
                        simp only [Act.put, List.setIfInBounds_toArray, List.set_cons_zero, List.set_cons_succ]
                        refine takeY (oi := { dst := some 68, op := Op.fieldAddr 117 (Operand.tmp 10) 0, type := 0, pos := "ref.go:124", after := #[{ on := 7, ground := Ground.guard }], guard := some (7, true) }) 14 (some 68) (v := ?v14_5) rfl rfl (by kernel_rfl) (by kernel_rfl) (by kernel_rfl) (fun _ _ _ h => h) (by kernel_rfl) ?hy5 hH1 ?_
                        case hy5 => (intro w_ hSw; (try dsimp only at hSw); (have k0 := blk_cell hSw.1.1 0; (try have k1 := hSw.2); go_simp; (first | done | with_reducible rfl | rw [if_neg (by omega)])))
                        simp only [Act.put, List.setIfInBounds_toArray, List.set_cons_zero, List.set_cons_succ]
                        refine takeY (oi := { dst := some 69, op := Op.load 9 (Operand.tmp 68), type := 9, pos := "ref.go:124", after := #[{ on := 14, ground := Ground.data }, { on := 7, ground := Ground.guard }], guard := some (7, true) }) 15 (some 69) (v := ?v15_5) rfl rfl (by kernel_rfl) (by kernel_rfl) (by kernel_rfl) (fun _ _ _ h => h) (by kernel_rfl) ?hy5 hH1 ?_
                        case hy5 => (intro w_ hSw; (try dsimp only at hSw); (have k0 := blk_cell hSw.1.1 0; (try have k1 := hSw.2); go_simp; (first | done | with_reducible rfl | rw [if_neg (by omega)])))
                        simp only [Act.put, List.setIfInBounds_toArray, List.set_cons_zero, List.set_cons_succ]
                        refine wpAnyH_ready (rs := [16]) (by kernel_rfl) (by simp) ?_
                        refine AllReadyH.cons (o := { dst := some 70, op := Op.call { callee := Callee.value (Operand.func 106), args := #[Operand.tmp 67, Operand.tmp 69], argTypes := #[9, 9] }, type := 3, pos := "ref.go:124", after := #[{ on := 13, ground := Ground.data }, { on := 15, ground := Ground.data }, { on := 7, ground := Ground.chain }, { on := 7, ground := Ground.guard }], guard := some (7, true) }) rfl (fun K2 hK2 => ?_) AllReadyH.nil
                        go_simp; refine (ref01_Compare_calls p0 key _ (by omega) (by omega)).mono ?_; rintro e w3 ⟨rfl, hb3⟩
                        refine hK2.out _ _ ?hS5 (fun hH2 => ?_)
                        case hS5 => ((try dsimp only); (exact ⟨⟨blk_below hb3 hH1.1.1, Kd.R_below hH1.1.2.1 hb3, keepB0 hb3 hH1.1.2.2.1, keepB0 hb3 hH1.1.2.2.2⟩, pw_cell_below hb3 hH1.2⟩))
                        clear hK2 K2
                        (try clear hH1)
                        (try simp only [Act.put, List.setIfInBounds_toArray, List.set_cons_zero, List.set_cons_succ])
                        refine takeY (oi := { dst := some 71, op := Op.binOp BinOp.geq 3 (Operand.tmp 70) (Operand.const (Value.int IntKind.i64 0)) 3, type := 4, pos := "ref.go:124", after := #[{ on := 16, ground := Ground.data }, { on := 7, ground := Ground.guard }], guard := some (7, true) }) 17 (some 71) (v := ?v17_5) rfl rfl (by kernel_rfl) (by kernel_rfl) (by kernel_rfl) (fun _ _ _ h => h) (by kernel_rfl) ?hy5 hH2 ?_
                        case hy5 => (intro w_ hSw; (try dsimp only at hSw); (have k0 := blk_cell hSw.1.1 0; (try have k1 := hSw.2); go_simp; (first | done | with_reducible rfl | rw [if_neg (by omega)])))
                        simp only [Act.put, List.setIfInBounds_toArray, List.set_cons_zero, List.set_cons_succ]
                        refine takeY (oi := { dst := some 72, op := Op.pick (Operand.tmp 61) (Operand.tmp 71) (Operand.const (Value.bool false)), type := 4, pos := "ref.go:124", after := #[{ on := 7, ground := Ground.data }, { on := 17, ground := Ground.data }, { on := 4, ground := Ground.guard }], guard := some (4, false) }) 18 (some 72) (v := ?v18_5) rfl rfl (by kernel_rfl) (by kernel_rfl) (by kernel_rfl) (fun _ _ _ h => h) (by kernel_rfl) ?hy5 hH2 ?_
                        case hy5 => (intro w_ hSw; (try dsimp only at hSw); (have k0 := blk_cell hSw.1.1 0; (try have k1 := hSw.2); go_simp; (first | done | with_reducible rfl | rw [if_neg (by omega)])))
                        simp only [Act.put, List.setIfInBounds_toArray, List.set_cons_zero, List.set_cons_succ]
                        refine takeY (oi := { dst := some 73, op := Op.pick (Operand.tmp 58) (Operand.const (Value.bool true)) (Operand.tmp 72), type := 4, pos := "ref.go:124", after := #[{ on := 4, ground := Ground.data }, { on := 18, ground := Ground.data }], guard := none }) 19 (some 73) (v := ?v19_5) rfl rfl (by kernel_rfl) (by kernel_rfl) (by kernel_rfl) (fun _ _ _ h => h) (by kernel_rfl) ?hy5 hH2 ?_
                        case hy5 => (intro w_ hSw; (try dsimp only at hSw); (have k0 := blk_cell hSw.1.1 0; (try have k1 := hSw.2); go_simp; (first | done | with_reducible rfl | rw [if_neg (by omega)])))
                        simp only [Act.put, List.setIfInBounds_toArray, List.set_cons_zero, List.set_cons_succ]
                        refine wpAnyH_done (by kernel_rfl) ?_ _
                        have hEnd := hH2
                        clear hH2
                        have HZ := Lib.hid hEnd.1
                        clear hEnd
                        go_wp2_with (go_at_call 128; (first | (with_reducible refine (HV.out _).mono ?_) | (with_reducible refine (HV0.out _).mono ?_)); rintro e' w4 ⟨rfl, hb4⟩; have HB4 := Lib.hid (keepB0 hb4 HZ.out.2.2.1); have K4 := blk_alloc (blk_below hb4 HZ.out.1) (.cells #[.int .i64 v0, .int .i64 v1, .string v2] 42); have HR4 := Lib.hid (Kd.R_alloc (Kd.R_below HZ.out.2.1 hb4) (.cells #[.int .i64 v0, .int .i64 v1, .string v2] 42)); clear hb4; have HK4 := Lib.hid K4; clear K4; have z1 : (w4.alloc (.cells #[.int .i64 v0, .int .i64 v1, .string v2] 42)).cell? ⟨wr.heap.size, 1, none⟩ = some (.int .i64 0) := blk_cell HK4.out 1; have z2 : (w4.alloc (.cells #[.int .i64 v0, .int .i64 v1, .string v2] 42)).cell? ⟨wr.heap.size, 2, none⟩ = some (.int .i64 0) := blk_cell HK4.out 2; have z3 : (w4.alloc (.cells #[.int .i64 v0, .int .i64 v1, .string v2] 42)).cell? ⟨wr.heap.size, 3, none⟩ = some (.string ⟨#[]⟩) := blk_cell HK4.out 3; have t1 := blk_frozen HK4.out 1; have t2 := blk_frozen HK4.out 2; have t3 := blk_frozen HK4.out 3; have K5 := blk_set (blk_set (blk_set HK4.out 1 (.int .i64 v0)) 2 (.int .i64 v1)) 3 (.string v2); have u0 := blk_cell K5 0; have u1 := blk_cell K5 1; have u2 := blk_cell K5 2; have u3 := blk_cell K5 3; clear K5; simp only [List.setIfInBounds_toArray, List.set_cons_succ, List.set_cons_zero, List.getElem?_toArray, List.getElem?_cons_zero, List.getElem?_cons_succ] at u0 u1 u2 u3; have HR5 := Lib.hid (Kd.R_mono (ok' := fun _ => True) (Kd.R_far (p := ⟨wr.heap.size, 3, none⟩) (Kd.R_far (p := ⟨wr.heap.size, 2, none⟩) (Kd.R_far (p := ⟨wr.heap.size, 1, none⟩) HR4.out (fun k hk => Nat.ne_of_lt hk) (.int .i64 v0)) (fun k hk => Nat.ne_of_lt hk) (.int .i64 v1)) (fun k hk => Nat.ne_of_lt hk) (.string v2)) (fun _ _ => trivial)); have HB5 := Lib.hid ((((keepB0 (below_al _ (.cells #[.int .i64 v0, .int .i64 v1, .string v2] 42)) HB4.out).setCell (p := ⟨wr.heap.size, 1, none⟩) HB.out.size (.int .i64 v0)).setCell (p := ⟨wr.heap.size, 2, none⟩) HB.out.size (.int .i64 v1)).setCell (p := ⟨wr.heap.size, 3, none⟩) HB.out.size (.string v2)))
                        refine bodyPost_ret (v := .tuple #[.slice none 0 0, .int .i64 0, .int .i64 (e)]) (by simp [results, Try.results108, go_sem]) rfl ⟨_, by rw [← HI2.out, HE.out], by rw [← HI2.out, HE.out]; exact Kd.R_nil _ _ _ _ _, keepB0 (below_al _ _) HB4.out⟩
                  · have HV := Lib.hid (fun W hW => rtake_at (w0 := wr) (W := W) (ad := ad) (b := b) (c := c) (a1 := a + 1 + key.size) (Kd.C_below HX.out HB.out) hW HBY.out (by omega) hle hcap2 HVV.out)
                    by_cases he : e = 0
                    · subst he
                      obtain ⟨hm0, hm1, -, -, -⟩ := takeV_ok (fun z hz => HBY.out z (List.mem_of_mem_drop hz)) HVV.out
                      rw [List.length_drop] at hm1
                      obtain ⟨m', rfl⟩ : ∃ m' : Nat, m = m' := ⟨m.toNat, by omega⟩
                      have hm2 : a + 1 + key.size + m' ≤ b.length := by omega
                      have hol2 : out.length ≤ 16 := by rw [HOL.out]; omega
                      have HFF : Hid (fits (out ++ [⟨key, ⟨v0, v1, v2⟩⟩])) := Lib.hid (fun p hp => by
                        rcases List.mem_append.1 hp with h | h
                        · exact HF.out p h
                        · simp only [List.mem_singleton] at h; subst h; show key.size ≤ 100000; omega)
                      cases i with
                      | zero =>
                        have HE : Hid (tpGo b (x.toNat - (0 + 1)) (out ++ [⟨key, ⟨v0, v1, v2⟩⟩]) (a + 1 + key.size + m') = takeP b) := Lib.hid (by
                          rw [← HI2.out, tpGo_step (by rw [HK.out]; omega) (by rw [HKY.out, hN]; obtain rfl : out = [] := List.eq_nil_of_length_eq_zero HOL.out; simp [orderBad]) (by rw [HK.out]; exact HVV.out), HKY.out, HK.out]; rfl)
                        go_wp2_with fail
                        refine wp_region_held_drew (S := (fun w' => Blk w' wr.heap.size #[.string key, .int .i64 0, .int .i64 0, .string ⟨#[]⟩] 117 ∧ kPrp.R 117 w' w.heap.size (fun k => k < wr.heap.size) (.slice A5 out.length c5) out ∧ Below w.heap.size w w' ∧ Below wr.heap.size wr w')) (by kernel_rfl) ?hS6 (fun hH0 => ?_)
                        case hS6 => exact ⟨blk_drew (blk_new wr _ _), Kd.R_drew (Kd.R_alloc (Kd.R_mono (Kd.R_bound HR.out) (fun k hk => hk.2.2.1)) _), below_drew (keepB0 (below_al _ _) HB.out), below_drew (below_al _ _)⟩
                        refine takeY (oi := { dst := some 54, op := Op.fieldAddr 117 (Operand.tmp 10) 0, type := 0, pos := "ref.go:124", after := #[], guard := none }) 0 (some 54) (v := ?v0_6) rfl rfl (by kernel_rfl) (by kernel_rfl) (by kernel_rfl) (fun _ _ _ h => h) (by kernel_rfl) ?hy6 hH0 ?_
                        case hy6 => (intro w_ hSw; (try dsimp only at hSw); (have k0 := blk_cell hSw.1 0; (try have k1 := hSw.2); go_simp; (first | done | with_reducible rfl | rw [if_neg (by omega)])))
                        simp only [Act.put, List.setIfInBounds_toArray, List.set_cons_zero, List.set_cons_succ]
                        refine takeY (oi := { dst := some 55, op := Op.load 9 (Operand.tmp 54), type := 9, pos := "ref.go:124", after := #[{ on := 0, ground := Ground.data }], guard := none }) 1 (some 55) (v := ?v1_6) rfl rfl (by kernel_rfl) (by kernel_rfl) (by kernel_rfl) (fun _ _ _ h => h) (by kernel_rfl) ?hy6 hH0 ?_
                        case hy6 => (intro w_ hSw; (try dsimp only at hSw); (have k0 := blk_cell hSw.1 0; (try have k1 := hSw.2); go_simp; (first | done | with_reducible rfl | rw [if_neg (by omega)])))
                        simp only [Act.put, List.setIfInBounds_toArray, List.set_cons_zero, List.set_cons_succ]
                        refine wpAnyH_ready (rs := [2]) (by kernel_rfl) (by simp) ?_
                        refine AllReadyH.cons (o := { dst := some 56, op := Op.call { callee := Callee.value (Operand.func 67), args := #[Operand.tmp 55], argTypes := #[9] }, type := 4, pos := "ref.go:124", after := #[{ on := 1, ground := Ground.data }], guard := none }) rfl (fun K1 hK1 => ?_) AllReadyH.nil
                        go_simp; refine (ref01_Right_calls key _ (by first | omega | decide)).mono ?_; rw [hN]; rintro e w2 ⟨rfl, hb2⟩
                        refine hK1.out _ _ ?hS6 (fun hH1 => ?_)
                        case hS6 => ((try dsimp only); (exact ⟨blk_below hb2 hH0.1, Kd.R_below hH0.2.1 hb2, keepB0 hb2 hH0.2.2.1, keepB0 hb2 hH0.2.2.2⟩))
                        clear hK1 K1
                        (try clear hH0)
                        (try simp only [Act.put, List.setIfInBounds_toArray, List.set_cons_zero, List.set_cons_succ])
                        refine takeY (oi := { dst := some 57, op := Op.unOp UnOp.not 4 (Operand.tmp 56), type := 4, pos := "ref.go:124", after := #[{ on := 2, ground := Ground.data }], guard := none }) 3 (some 57) (v := ?v3_6) rfl rfl (by kernel_rfl) (by kernel_rfl) (by kernel_rfl) (fun _ _ _ h => h) (by kernel_rfl) ?hy6 hH1 ?_
                        case hy6 => (intro w_ hSw; (try dsimp only at hSw); (have k0 := blk_cell hSw.1 0; (try have k1 := hSw.2); go_simp; (first | done | with_reducible rfl | rw [if_neg (by omega)])))
                        simp only [Act.put, List.setIfInBounds_toArray, List.set_cons_zero, List.set_cons_succ]
                        refine takeY (oi := { dst := some 58, op := Op.move (Operand.tmp 57), type := 4, pos := "ref.go:124", after := #[{ on := 3, ground := Ground.data }, { on := 2, ground := Ground.chain }], guard := none }) 4 (some 58) (v := ?v4_6) rfl rfl (by kernel_rfl) (by kernel_rfl) (by kernel_rfl) (fun _ _ _ h => h) (by kernel_rfl) ?hy6 hH1 ?_
                        case hy6 => (intro w_ hSw; (try dsimp only at hSw); (have k0 := blk_cell hSw.1 0; (try have k1 := hSw.2); go_simp; (first | done | with_reducible rfl | rw [if_neg (by omega)])))
                        simp only [Act.put, List.setIfInBounds_toArray, List.set_cons_zero, List.set_cons_succ]
                        refine takeY (oi := { dst := some 59, op := Op.move (Operand.tmp 8), type := 3, pos := "ref.go:124", after := #[{ on := 4, ground := Ground.guard }], guard := some (4, false) }) 5 (some 59) (v := ?v5_6) rfl rfl (by kernel_rfl) (by kernel_rfl) (by kernel_rfl) (fun _ _ _ h => h) (by kernel_rfl) ?hy6 hH1 ?_
                        case hy6 => (intro w_ hSw; (try dsimp only at hSw); (have k0 := blk_cell hSw.1 0; (try have k1 := hSw.2); go_simp; (first | done | with_reducible rfl | rw [if_neg (by omega)])))
                        simp only [Act.put, List.setIfInBounds_toArray, List.set_cons_zero, List.set_cons_succ]
                        refine takeY (oi := { dst := some 60, op := Op.binOp BinOp.gtr 3 (Operand.tmp 59) (Operand.const (Value.int IntKind.i64 0)) 3, type := 4, pos := "ref.go:124", after := #[{ on := 5, ground := Ground.data }, { on := 4, ground := Ground.guard }], guard := some (4, false) }) 6 (some 60) (v := ?v6_6) rfl rfl (by kernel_rfl) (by kernel_rfl) (by kernel_rfl) (fun _ _ _ h => h) (by kernel_rfl) ?hy6 hH1 ?_
                        case hy6 => (intro w_ hSw; (try dsimp only at hSw); (have k0 := blk_cell hSw.1 0; (try have k1 := hSw.2); go_simp; (first | done | with_reducible rfl | rw [if_neg (by omega)])))
                        simp only [Act.put, List.setIfInBounds_toArray, List.set_cons_zero, List.set_cons_succ]
                        refine takeY (oi := { dst := some 61, op := Op.move (Operand.tmp 60), type := 4, pos := "ref.go:124", after := #[{ on := 6, ground := Ground.data }, { on := 4, ground := Ground.chain }, { on := 4, ground := Ground.guard }], guard := some (4, false) }) 7 (some 61) (v := ?v7_6) rfl rfl (by kernel_rfl) (by kernel_rfl) (by kernel_rfl) (fun _ _ _ h => h) (by kernel_rfl) ?hy6 hH1 ?_
                        case hy6 => (intro w_ hSw; (try dsimp only at hSw); (have k0 := blk_cell hSw.1 0; (try have k1 := hSw.2); go_simp; (first | done | with_reducible rfl | rw [if_neg (by omega)])))
                        simp only [Act.put, List.setIfInBounds_toArray, List.set_cons_zero, List.set_cons_succ]
                        refine takeN 8 (some 62) rfl (by kernel_rfl) (by kernel_rfl) (by kernel_rfl) (by kernel_rfl) (fun _ _ _ h => h) (by kernel_rfl) hH1 ?_
                        simp only [Act.put, List.setIfInBounds_toArray, List.set_cons_zero, List.set_cons_succ]
                        refine takeN 9 (some 63) rfl (by kernel_rfl) (by kernel_rfl) (by kernel_rfl) (by kernel_rfl) (fun _ _ _ h => h) (by kernel_rfl) hH1 ?_
                        simp only [Act.put, List.setIfInBounds_toArray, List.set_cons_zero, List.set_cons_succ]
                        refine takeN 10 (some 64) rfl (by kernel_rfl) (by kernel_rfl) (by kernel_rfl) (by kernel_rfl) (fun _ _ _ h => h) (by kernel_rfl) hH1 ?_
                        simp only [Act.put, List.setIfInBounds_toArray, List.set_cons_zero, List.set_cons_succ]
                        refine takeN 11 (some 65) rfl (by kernel_rfl) (by kernel_rfl) (by kernel_rfl) (by kernel_rfl) (fun _ _ _ h => h) (by kernel_rfl) hH1 ?_
                        simp only [Act.put, List.setIfInBounds_toArray, List.set_cons_zero, List.set_cons_succ]
                        refine takeN 12 (some 66) rfl (by kernel_rfl) (by kernel_rfl) (by kernel_rfl) (by kernel_rfl) (fun _ _ _ h => h) (by kernel_rfl) hH1 ?_
                        simp only [Act.put, List.setIfInBounds_toArray, List.set_cons_zero, List.set_cons_succ]
                        refine takeN 13 (some 67) rfl (by kernel_rfl) (by kernel_rfl) (by kernel_rfl) (by kernel_rfl) (fun _ _ _ h => h) (by kernel_rfl) hH1 ?_
                        simp only [Act.put, List.setIfInBounds_toArray, List.set_cons_zero, List.set_cons_succ]
                        refine takeN 14 (some 68) rfl (by kernel_rfl) (by kernel_rfl) (by kernel_rfl) (by kernel_rfl) (fun _ _ _ h => h) (by kernel_rfl) hH1 ?_
                        simp only [Act.put, List.setIfInBounds_toArray, List.set_cons_zero, List.set_cons_succ]
                        refine takeN 15 (some 69) rfl (by kernel_rfl) (by kernel_rfl) (by kernel_rfl) (by kernel_rfl) (fun _ _ _ h => h) (by kernel_rfl) hH1 ?_
                        simp only [Act.put, List.setIfInBounds_toArray, List.set_cons_zero, List.set_cons_succ]
                        refine takeN 16 (some 70) rfl (by kernel_rfl) (by kernel_rfl) (by kernel_rfl) (by kernel_rfl) (fun _ _ _ h => h) (by kernel_rfl) hH1 ?_
                        simp only [Act.put, List.setIfInBounds_toArray, List.set_cons_zero, List.set_cons_succ]
                        refine takeN 17 (some 71) rfl (by kernel_rfl) (by kernel_rfl) (by kernel_rfl) (by kernel_rfl) (fun _ _ _ h => h) (by kernel_rfl) hH1 ?_
                        simp only [Act.put, List.setIfInBounds_toArray, List.set_cons_zero, List.set_cons_succ]
                        refine takeY (oi := { dst := some 72, op := Op.pick (Operand.tmp 61) (Operand.tmp 71) (Operand.const (Value.bool false)), type := 4, pos := "ref.go:124", after := #[{ on := 7, ground := Ground.data }, { on := 17, ground := Ground.data }, { on := 4, ground := Ground.guard }], guard := some (4, false) }) 18 (some 72) (v := ?v18_6) rfl rfl (by kernel_rfl) (by kernel_rfl) (by kernel_rfl) (fun _ _ _ h => h) (by kernel_rfl) ?hy6 hH1 ?_
                        case hy6 => (intro w_ hSw; (try dsimp only at hSw); (have k0 := blk_cell hSw.1 0; (try have k1 := hSw.2); go_simp; (first | done | with_reducible rfl | rw [if_neg (by omega)])))
                        simp only [Act.put, List.setIfInBounds_toArray, List.set_cons_zero, List.set_cons_succ]
                        refine takeY (oi := { dst := some 73, op := Op.pick (Operand.tmp 58) (Operand.const (Value.bool true)) (Operand.tmp 72), type := 4, pos := "ref.go:124", after := #[{ on := 4, ground := Ground.data }, { on := 18, ground := Ground.data }], guard := none }) 19 (some 73) (v := ?v19_6) rfl rfl (by kernel_rfl) (by kernel_rfl) (by kernel_rfl) (fun _ _ _ h => h) (by kernel_rfl) ?hy6 hH1 ?_
                        case hy6 => (intro w_ hSw; (try dsimp only at hSw); (have k0 := blk_cell hSw.1 0; (try have k1 := hSw.2); go_simp; (first | done | with_reducible rfl | rw [if_neg (by omega)])))
                        simp only [Act.put, List.setIfInBounds_toArray, List.set_cons_zero, List.set_cons_succ]
                        refine wpAnyH_done (by kernel_rfl) ?_ _
                        have hEnd := hH1
                        clear hH1
                        have HZ := Lib.hid hEnd
                        clear hEnd
                        go_wp2_with (first
                          | (go_at_call 128; (with_reducible refine (HV.out _ HZ.out.2.2.2).mono ?_); rintro e' w4 ⟨rfl, hb4⟩; have HB4 := Lib.hid (keepB0 hb4 HZ.out.2.2.1); have K4 := blk_alloc (blk_below hb4 HZ.out.1) (.cells #[.int .i64 v0, .int .i64 v1, .string v2] 42); have HR4 := Lib.hid (Kd.R_alloc (Kd.R_below HZ.out.2.1 hb4) (.cells #[.int .i64 v0, .int .i64 v1, .string v2] 42)); clear hb4; have HK4 := Lib.hid K4; clear K4; have z1 : (w4.alloc (.cells #[.int .i64 v0, .int .i64 v1, .string v2] 42)).cell? ⟨wr.heap.size, 1, none⟩ = some (.int .i64 0) := blk_cell HK4.out 1; have z2 : (w4.alloc (.cells #[.int .i64 v0, .int .i64 v1, .string v2] 42)).cell? ⟨wr.heap.size, 2, none⟩ = some (.int .i64 0) := blk_cell HK4.out 2; have z3 : (w4.alloc (.cells #[.int .i64 v0, .int .i64 v1, .string v2] 42)).cell? ⟨wr.heap.size, 3, none⟩ = some (.string ⟨#[]⟩) := blk_cell HK4.out 3; have t1 := blk_frozen HK4.out 1; have t2 := blk_frozen HK4.out 2; have t3 := blk_frozen HK4.out 3; have K5 := blk_set (blk_set (blk_set HK4.out 1 (.int .i64 v0)) 2 (.int .i64 v1)) 3 (.string v2); have u0 := blk_cell K5 0; have u1 := blk_cell K5 1; have u2 := blk_cell K5 2; have u3 := blk_cell K5 3; clear K5; simp only [List.setIfInBounds_toArray, List.set_cons_succ, List.set_cons_zero, List.getElem?_toArray, List.getElem?_cons_zero, List.getElem?_cons_succ] at u0 u1 u2 u3; have HR5 := Lib.hid (Kd.R_mono (ok' := fun _ => True) (Kd.R_far (p := ⟨wr.heap.size, 3, none⟩) (Kd.R_far (p := ⟨wr.heap.size, 2, none⟩) (Kd.R_far (p := ⟨wr.heap.size, 1, none⟩) HR4.out (fun k hk => Nat.ne_of_lt hk) (.int .i64 v0)) (fun k hk => Nat.ne_of_lt hk) (.int .i64 v1)) (fun k hk => Nat.ne_of_lt hk) (.string v2)) (fun _ _ => trivial)); have HB5 := Lib.hid ((((keepB0 (below_al _ (.cells #[.int .i64 v0, .int .i64 v1, .string v2] 42)) HB4.out).setCell (p := ⟨wr.heap.size, 1, none⟩) HB.out.size (.int .i64 v0)).setCell (p := ⟨wr.heap.size, 2, none⟩) HB.out.size (.int .i64 v1)).setCell (p := ⟨wr.heap.size, 3, none⟩) HB.out.size (.string v2)))
                          | (at_builtin; (refine app_one HR5.out info_Prp Try.underlying22 (kPrp_mkM _ _ _ (⟨key, ⟨v0, v1, v2⟩⟩ : SPrp)) (fun _ _ => trivial) HB5.out.size (by omega) rfl (by decide) (by decide) rfl rfl rfl (by show Value.slice (some ⟨w4.heap.size + 1, 0, none⟩) 1 1 = _; simp [World.size_alloc, World.setCell]) ?_); intro vn w7 hR7 hb7 hg7 hat7; have HR2 := Lib.hid hR7; have HB2 := Lib.hid (HB5.out.trans hb7); clear hR7 hb7 hg7))
                        go_roundw
                        case rel => exact ⟨0 + 1, a + 1 + key.size + m', _, by omega, by rw [List.length_append, HOL.out]; rfl, by omega, by omega, by go_num, by go_num, HFF, HB2, HR2, HE⟩
                        case measure => simp [intOf]; omega
                      | succ j =>
                        have hjo : (j : Int) < (out.length : Int) := by rw [HOL.out]; omega
                        have hjo2 : j < out.length := by omega
                        obtain ⟨ad5, e5, f0, -, -, -⟩ := at_Prp HC5.out (j : Int) (by omega) (by rw [HOL.out]; omega)
                        subst e5
                        simp only [Int.toNat_natCast, rd_Prp] at f0
                        have hpm := HF.out (out.getD j zPrp) (by rw [List.getD_eq_getElem?_getD, List.getElem?_eq_getElem (by rw [HOL.out]; omega)]; exact List.getElem_mem _)
                        have HLast := Lib.hid (orderBad_at (out := out) (j := j) (key := key) HOL.out)
                        have hwj1 : IntKind.i64.wrap (j : Int) = (j : Int) := IntWalk.i64_in _ (by omega)
                        have hwj2 : (0 : Int) ≤ (j : Int) := by omega
                        generalize (out.getD j zPrp).f0 = p0 at f0 HLast hpm
                        cases hO : decide (0 ≤ cmpS p0 key) with
                        | true =>
                          have HE : Hid (tpGo b (x.toNat - (j + 1 + 1) + 1) out a = ([], 0, 30)) := Lib.hid (tpGo_name (by rw [HK.out]; omega) (.inr (by rw [HKY.out, HLast.out, hO])))
                          go_wp2_with fail
                          refine wp_region_held_drew (S := (fun w' => (Blk w' wr.heap.size #[.string key, .int .i64 0, .int .i64 0, .string ⟨#[]⟩] 117 ∧ kPrp.R 117 w' w.heap.size (fun k => k < wr.heap.size) (.slice (some ad5) out.length c5) out ∧ Below w.heap.size w w' ∧ Below wr.heap.size wr w') ∧ w'.cell? (ad5.add (j * 4)) = some (.string p0))) (by kernel_rfl) ?hS7 (fun hH0 => ?_)
                          case hS7 => exact ⟨⟨blk_drew (blk_new wr _ _), Kd.R_drew (Kd.R_alloc (Kd.R_mono (Kd.R_bound HR.out) (fun k hk => hk.2.2.1)) _), below_drew (keepB0 (below_al _ _) HB.out), below_drew (below_al _ _)⟩, pw_cell_below (below_drew (below_al _ _)) f0⟩
                          refine takeY (oi := { dst := some 54, op := Op.fieldAddr 117 (Operand.tmp 10) 0, type := 0, pos := "ref.go:124", after := #[], guard := none }) 0 (some 54) (v := ?v0_7) rfl rfl (by kernel_rfl) (by kernel_rfl) (by kernel_rfl) (fun _ _ _ h => h) (by kernel_rfl) ?hy7 hH0 ?_
                          case hy7 => (intro w_ hSw; (try dsimp only at hSw); (have k0 := blk_cell hSw.1.1 0; (try have k1 := hSw.2); go_simp; (first | done | with_reducible rfl | rw [if_neg (by omega)])))
                          simp only [Act.put, List.setIfInBounds_toArray, List.set_cons_zero, List.set_cons_succ]
                          refine takeY (oi := { dst := some 55, op := Op.load 9 (Operand.tmp 54), type := 9, pos := "ref.go:124", after := #[{ on := 0, ground := Ground.data }], guard := none }) 1 (some 55) (v := ?v1_7) rfl rfl (by kernel_rfl) (by kernel_rfl) (by kernel_rfl) (fun _ _ _ h => h) (by kernel_rfl) ?hy7 hH0 ?_
                          case hy7 => (intro w_ hSw; (try dsimp only at hSw); (have k0 := blk_cell hSw.1.1 0; (try have k1 := hSw.2); go_simp; (first | done | with_reducible rfl | rw [if_neg (by omega)])))
                          simp only [Act.put, List.setIfInBounds_toArray, List.set_cons_zero, List.set_cons_succ]
                          refine wpAnyH_ready (rs := [2]) (by kernel_rfl) (by simp) ?_
                          refine AllReadyH.cons (o := { dst := some 56, op := Op.call { callee := Callee.value (Operand.func 67), args := #[Operand.tmp 55], argTypes := #[9] }, type := 4, pos := "ref.go:124", after := #[{ on := 1, ground := Ground.data }], guard := none }) rfl (fun K1 hK1 => ?_) AllReadyH.nil
                          go_simp; refine (ref01_Right_calls key _ (by first | omega | decide)).mono ?_; rw [hN]; rintro e w2 ⟨rfl, hb2⟩
                          refine hK1.out _ _ ?hS7 (fun hH1 => ?_)
                          case hS7 => ((try dsimp only); (exact ⟨⟨blk_below hb2 hH0.1.1, Kd.R_below hH0.1.2.1 hb2, keepB0 hb2 hH0.1.2.2.1, keepB0 hb2 hH0.1.2.2.2⟩, pw_cell_below hb2 hH0.2⟩))
                          clear hK1 K1
                          (try clear hH0)
                          (try simp only [Act.put, List.setIfInBounds_toArray, List.set_cons_zero, List.set_cons_succ])
                          refine takeY (oi := { dst := some 57, op := Op.unOp UnOp.not 4 (Operand.tmp 56), type := 4, pos := "ref.go:124", after := #[{ on := 2, ground := Ground.data }], guard := none }) 3 (some 57) (v := ?v3_7) rfl rfl (by kernel_rfl) (by kernel_rfl) (by kernel_rfl) (fun _ _ _ h => h) (by kernel_rfl) ?hy7 hH1 ?_
                          case hy7 => (intro w_ hSw; (try dsimp only at hSw); (have k0 := blk_cell hSw.1.1 0; (try have k1 := hSw.2); go_simp; (first | done | with_reducible rfl | rw [if_neg (by omega)])))
                          simp only [Act.put, List.setIfInBounds_toArray, List.set_cons_zero, List.set_cons_succ]
                          refine takeY (oi := { dst := some 58, op := Op.move (Operand.tmp 57), type := 4, pos := "ref.go:124", after := #[{ on := 3, ground := Ground.data }, { on := 2, ground := Ground.chain }], guard := none }) 4 (some 58) (v := ?v4_7) rfl rfl (by kernel_rfl) (by kernel_rfl) (by kernel_rfl) (fun _ _ _ h => h) (by kernel_rfl) ?hy7 hH1 ?_
                          case hy7 => (intro w_ hSw; (try dsimp only at hSw); (have k0 := blk_cell hSw.1.1 0; (try have k1 := hSw.2); go_simp; (first | done | with_reducible rfl | rw [if_neg (by omega)])))
                          simp only [Act.put, List.setIfInBounds_toArray, List.set_cons_zero, List.set_cons_succ]
                          refine takeY (oi := { dst := some 59, op := Op.move (Operand.tmp 8), type := 3, pos := "ref.go:124", after := #[{ on := 4, ground := Ground.guard }], guard := some (4, false) }) 5 (some 59) (v := ?v5_7) rfl rfl (by kernel_rfl) (by kernel_rfl) (by kernel_rfl) (fun _ _ _ h => h) (by kernel_rfl) ?hy7 hH1 ?_
                          case hy7 => (intro w_ hSw; (try dsimp only at hSw); (have k0 := blk_cell hSw.1.1 0; (try have k1 := hSw.2); go_simp; (first | done | with_reducible rfl | rw [if_neg (by omega)])))
                          simp only [Act.put, List.setIfInBounds_toArray, List.set_cons_zero, List.set_cons_succ]
                          refine takeY (oi := { dst := some 60, op := Op.binOp BinOp.gtr 3 (Operand.tmp 59) (Operand.const (Value.int IntKind.i64 0)) 3, type := 4, pos := "ref.go:124", after := #[{ on := 5, ground := Ground.data }, { on := 4, ground := Ground.guard }], guard := some (4, false) }) 6 (some 60) (v := ?v6_7) rfl rfl (by kernel_rfl) (by kernel_rfl) (by kernel_rfl) (fun _ _ _ h => h) (by kernel_rfl) ?hy7 hH1 ?_
                          case hy7 => (intro w_ hSw; (try dsimp only at hSw); (have k0 := blk_cell hSw.1.1 0; (try have k1 := hSw.2); go_simp; (first | done | with_reducible rfl | rw [if_neg (by omega)])))
                          simp only [Act.put, List.setIfInBounds_toArray, List.set_cons_zero, List.set_cons_succ]
                          refine takeY (oi := { dst := some 61, op := Op.move (Operand.tmp 60), type := 4, pos := "ref.go:124", after := #[{ on := 6, ground := Ground.data }, { on := 4, ground := Ground.chain }, { on := 4, ground := Ground.guard }], guard := some (4, false) }) 7 (some 61) (v := ?v7_7) rfl rfl (by kernel_rfl) (by kernel_rfl) (by kernel_rfl) (fun _ _ _ h => h) (by kernel_rfl) ?hy7 hH1 ?_
                          case hy7 => (intro w_ hSw; (try dsimp only at hSw); (have k0 := blk_cell hSw.1.1 0; (try have k1 := hSw.2); go_simp; (first | done | with_reducible rfl | rw [if_neg (by omega)])))
                          simp only [Act.put, List.setIfInBounds_toArray, List.set_cons_zero, List.set_cons_succ]
                          refine takeY (oi := { dst := some 62, op := Op.move (Operand.tmp 6), type := 22, pos := "ref.go:124", after := #[{ on := 7, ground := Ground.guard }], guard := some (7, true) }) 8 (some 62) (v := ?v8_7) rfl rfl (by kernel_rfl) (by kernel_rfl) (by kernel_rfl) (fun _ _ _ h => h) (by kernel_rfl) ?hy7 hH1 ?_
                          case hy7 => (intro w_ hSw; (try dsimp only at hSw); (have k0 := blk_cell hSw.1.1 0; (try have k1 := hSw.2); go_simp; (first | done | with_reducible rfl | rw [if_neg (by omega)])))
                          simp only [Act.put, List.setIfInBounds_toArray, List.set_cons_zero, List.set_cons_succ]
                          refine takeY (oi := { dst := some 63, op := Op.move (Operand.tmp 8), type := 3, pos := "ref.go:124", after := #[{ on := 7, ground := Ground.guard }], guard := some (7, true) }) 9 (some 63) (v := ?v9_7) rfl rfl (by kernel_rfl) (by kernel_rfl) (by kernel_rfl) (fun _ _ _ h => h) (by kernel_rfl) ?hy7 hH1 ?_
                          case hy7 => (intro w_ hSw; (try dsimp only at hSw); (have k0 := blk_cell hSw.1.1 0; (try have k1 := hSw.2); go_simp; (first | done | with_reducible rfl | rw [if_neg (by omega)])))
                          simp only [Act.put, List.setIfInBounds_toArray, List.set_cons_zero, List.set_cons_succ]
                          refine takeY (oi := { dst := some 64, op := Op.binOp BinOp.sub 3 (Operand.tmp 63) (Operand.const (Value.int IntKind.i64 1)) 3, type := 3, pos := "ref.go:124", after := #[{ on := 9, ground := Ground.data }, { on := 7, ground := Ground.guard }], guard := some (7, true) }) 10 (some 64) (v := ?v10_7) rfl rfl (by kernel_rfl) (by kernel_rfl) (by kernel_rfl) (fun _ _ _ h => h) (by kernel_rfl) ?hy7 hH1 ?_
                          case hy7 => (intro w_ hSw; (try dsimp only at hSw); (have k0 := blk_cell hSw.1.1 0; (try have k1 := hSw.2); go_simp; (first | done | with_reducible rfl | rw [if_neg (by omega)])))
                          simp only [Act.put, List.setIfInBounds_toArray, List.set_cons_zero, List.set_cons_succ]
                          refine takeY (oi := { dst := some 65, op := Op.indexAddr 22 (Operand.tmp 62) (Operand.tmp 64), type := 0, pos := "ref.go:124", after := #[{ on := 8, ground := Ground.data }, { on := 10, ground := Ground.data }, { on := 7, ground := Ground.guard }], guard := some (7, true) }) 11 (some 65) (v := ?v11_7) rfl rfl (by kernel_rfl) (by kernel_rfl) (by kernel_rfl) (fun _ _ _ h => h) (by kernel_rfl) ?hy7 hH1 ?_
                          case hy7 => (intro w_ hSw; (try dsimp only at hSw); (have k0 := blk_cell hSw.1.1 0; (try have k1 := hSw.2); go_simp; (first | done | with_reducible rfl | rw [if_neg (by omega)])))
                          simp only [Act.put, List.setIfInBounds_toArray, List.set_cons_zero, List.set_cons_succ]
                          refine takeY (oi := { dst := some 66, op := Op.fieldAddr 117 (Operand.tmp 65) 0, type := 0, pos := "ref.go:124", after := #[{ on := 11, ground := Ground.data }, { on := 7, ground := Ground.guard }], guard := some (7, true) }) 12 (some 66) (v := ?v12_7) rfl rfl (by kernel_rfl) (by kernel_rfl) (by kernel_rfl) (fun _ _ _ h => h) (by kernel_rfl) ?hy7 hH1 ?_
                          case hy7 => (intro w_ hSw; (try dsimp only at hSw); (have k0 := blk_cell hSw.1.1 0; (try have k1 := hSw.2); go_simp; (first | done | with_reducible rfl | rw [if_neg (by omega)])))
                          simp only [Act.put, List.setIfInBounds_toArray, List.set_cons_zero, List.set_cons_succ]
                          refine takeY (oi := { dst := some 67, op := Op.load 9 (Operand.tmp 66), type := 9, pos := "ref.go:124", after := #[{ on := 12, ground := Ground.data }, { on := 7, ground := Ground.guard }], guard := some (7, true) }) 13 (some 67) (v := ?v13_7) rfl rfl (by kernel_rfl) (by kernel_rfl) (by kernel_rfl) (fun _ _ _ h => h) (by kernel_rfl) ?hy7 hH1 ?_
                          case hy7 => (intro w_ hSw; (try dsimp only at hSw); (have k0 := blk_cell hSw.1.1 0; (try have k1 := hSw.2); go_simp; (first | done | with_reducible rfl | rw [if_neg (by omega)])))
                          simp only [Act.put, List.setIfInBounds_toArray, List.set_cons_zero, List.set_cons_succ]
                          refine takeY (oi := { dst := some 68, op := Op.fieldAddr 117 (Operand.tmp 10) 0, type := 0, pos := "ref.go:124", after := #[{ on := 7, ground := Ground.guard }], guard := some (7, true) }) 14 (some 68) (v := ?v14_7) rfl rfl (by kernel_rfl) (by kernel_rfl) (by kernel_rfl) (fun _ _ _ h => h) (by kernel_rfl) ?hy7 hH1 ?_
                          case hy7 => (intro w_ hSw; (try dsimp only at hSw); (have k0 := blk_cell hSw.1.1 0; (try have k1 := hSw.2); go_simp; (first | done | with_reducible rfl | rw [if_neg (by omega)])))
                          simp only [Act.put, List.setIfInBounds_toArray, List.set_cons_zero, List.set_cons_succ]
                          refine takeY (oi := { dst := some 69, op := Op.load 9 (Operand.tmp 68), type := 9, pos := "ref.go:124", after := #[{ on := 14, ground := Ground.data }, { on := 7, ground := Ground.guard }], guard := some (7, true) }) 15 (some 69) (v := ?v15_7) rfl rfl (by kernel_rfl) (by kernel_rfl) (by kernel_rfl) (fun _ _ _ h => h) (by kernel_rfl) ?hy7 hH1 ?_
                          case hy7 => (intro w_ hSw; (try dsimp only at hSw); (have k0 := blk_cell hSw.1.1 0; (try have k1 := hSw.2); go_simp; (first | done | with_reducible rfl | rw [if_neg (by omega)])))
                          simp only [Act.put, List.setIfInBounds_toArray, List.set_cons_zero, List.set_cons_succ]
                          refine wpAnyH_ready (rs := [16]) (by kernel_rfl) (by simp) ?_
                          refine AllReadyH.cons (o := { dst := some 70, op := Op.call { callee := Callee.value (Operand.func 106), args := #[Operand.tmp 67, Operand.tmp 69], argTypes := #[9, 9] }, type := 3, pos := "ref.go:124", after := #[{ on := 13, ground := Ground.data }, { on := 15, ground := Ground.data }, { on := 7, ground := Ground.chain }, { on := 7, ground := Ground.guard }], guard := some (7, true) }) rfl (fun K2 hK2 => ?_) AllReadyH.nil
                          go_simp; refine (ref01_Compare_calls p0 key _ (by omega) (by omega)).mono ?_; rintro e w3 ⟨rfl, hb3⟩
                          refine hK2.out _ _ ?hS7 (fun hH2 => ?_)
                          case hS7 => ((try dsimp only); (exact ⟨⟨blk_below hb3 hH1.1.1, Kd.R_below hH1.1.2.1 hb3, keepB0 hb3 hH1.1.2.2.1, keepB0 hb3 hH1.1.2.2.2⟩, pw_cell_below hb3 hH1.2⟩))
                          clear hK2 K2
                          (try clear hH1)
                          (try simp only [Act.put, List.setIfInBounds_toArray, List.set_cons_zero, List.set_cons_succ])
                          refine takeY (oi := { dst := some 71, op := Op.binOp BinOp.geq 3 (Operand.tmp 70) (Operand.const (Value.int IntKind.i64 0)) 3, type := 4, pos := "ref.go:124", after := #[{ on := 16, ground := Ground.data }, { on := 7, ground := Ground.guard }], guard := some (7, true) }) 17 (some 71) (v := ?v17_7) rfl rfl (by kernel_rfl) (by kernel_rfl) (by kernel_rfl) (fun _ _ _ h => h) (by kernel_rfl) ?hy7 hH2 ?_
                          case hy7 => (intro w_ hSw; (try dsimp only at hSw); (have k0 := blk_cell hSw.1.1 0; (try have k1 := hSw.2); go_simp; (first | done | with_reducible rfl | rw [if_neg (by omega)])))
                          simp only [Act.put, List.setIfInBounds_toArray, List.set_cons_zero, List.set_cons_succ]
                          refine takeY (oi := { dst := some 72, op := Op.pick (Operand.tmp 61) (Operand.tmp 71) (Operand.const (Value.bool false)), type := 4, pos := "ref.go:124", after := #[{ on := 7, ground := Ground.data }, { on := 17, ground := Ground.data }, { on := 4, ground := Ground.guard }], guard := some (4, false) }) 18 (some 72) (v := ?v18_7) rfl rfl (by kernel_rfl) (by kernel_rfl) (by kernel_rfl) (fun _ _ _ h => h) (by kernel_rfl) ?hy7 hH2 ?_
                          case hy7 => (intro w_ hSw; (try dsimp only at hSw); (have k0 := blk_cell hSw.1.1 0; (try have k1 := hSw.2); go_simp; (first | done | with_reducible rfl | rw [if_neg (by omega)])))
                          simp only [Act.put, List.setIfInBounds_toArray, List.set_cons_zero, List.set_cons_succ]
                          refine takeY (oi := { dst := some 73, op := Op.pick (Operand.tmp 58) (Operand.const (Value.bool true)) (Operand.tmp 72), type := 4, pos := "ref.go:124", after := #[{ on := 4, ground := Ground.data }, { on := 18, ground := Ground.data }], guard := none }) 19 (some 73) (v := ?v19_7) rfl rfl (by kernel_rfl) (by kernel_rfl) (by kernel_rfl) (fun _ _ _ h => h) (by kernel_rfl) ?hy7 hH2 ?_
                          case hy7 => (intro w_ hSw; (try dsimp only at hSw); (have k0 := blk_cell hSw.1.1 0; (try have k1 := hSw.2); go_simp; (first | done | with_reducible rfl | rw [if_neg (by omega)])))
                          simp only [Act.put, List.setIfInBounds_toArray, List.set_cons_zero, List.set_cons_succ]
                          refine wpAnyH_done (by kernel_rfl) ?_ _
                          have hEnd := hH2
                          clear hH2
                          have HZ := Lib.hid hEnd.1
                          clear hEnd
                          go_wp2
                          refine bodyPost_ret (v := .tuple #[.slice none 0 0, .int .i64 0, .int .i64 (30)]) (by simp [results, Try.results108, go_sem]) rfl ⟨_, by rw [← HI2.out, HE.out], by rw [← HI2.out, HE.out]; exact Kd.R_nil _ _ _ _ _, HZ.out.2.2.1⟩
                        | false =>
                          have HE : Hid (tpGo b (x.toNat - (j + 1 + 1)) (out ++ [⟨key, ⟨v0, v1, v2⟩⟩]) (a + 1 + key.size + m') = takeP b) := Lib.hid (by
                            rw [← HI2.out, tpGo_step (by rw [HK.out]; omega) (by rw [HKY.out, hN, HLast.out, hO]; simp) (by rw [HK.out]; exact HVV.out), HKY.out, HK.out]; rfl)
                          go_wp2_with fail
                          refine wp_region_held_drew (S := (fun w' => (Blk w' wr.heap.size #[.string key, .int .i64 0, .int .i64 0, .string ⟨#[]⟩] 117 ∧ kPrp.R 117 w' w.heap.size (fun k => k < wr.heap.size) (.slice (some ad5) out.length c5) out ∧ Below w.heap.size w w' ∧ Below wr.heap.size wr w') ∧ w'.cell? (ad5.add (j * 4)) = some (.string p0))) (by kernel_rfl) ?hS8 (fun hH0 => ?_)
                          case hS8 => exact ⟨⟨blk_drew (blk_new wr _ _), Kd.R_drew (Kd.R_alloc (Kd.R_mono (Kd.R_bound HR.out) (fun k hk => hk.2.2.1)) _), below_drew (keepB0 (below_al _ _) HB.out), below_drew (below_al _ _)⟩, pw_cell_below (below_drew (below_al _ _)) f0⟩
                          refine takeY (oi := { dst := some 54, op := Op.fieldAddr 117 (Operand.tmp 10) 0, type := 0, pos := "ref.go:124", after := #[], guard := none }) 0 (some 54) (v := ?v0_8) rfl rfl (by kernel_rfl) (by kernel_rfl) (by kernel_rfl) (fun _ _ _ h => h) (by kernel_rfl) ?hy8 hH0 ?_
                          case hy8 => (intro w_ hSw; (try dsimp only at hSw); (have k0 := blk_cell hSw.1.1 0; (try have k1 := hSw.2); go_simp; (first | done | with_reducible rfl | rw [if_neg (by omega)])))
                          simp only [Act.put, List.setIfInBounds_toArray, List.set_cons_zero, List.set_cons_succ]
                          refine takeY (oi := { dst := some 55, op := Op.load 9 (Operand.tmp 54), type := 9, pos := "ref.go:124", after := #[{ on := 0, ground := Ground.data }], guard := none }) 1 (some 55) (v := ?v1_8) rfl rfl (by kernel_rfl) (by kernel_rfl) (by kernel_rfl) (fun _ _ _ h => h) (by kernel_rfl) ?hy8 hH0 ?_
                          case hy8 => (intro w_ hSw; (try dsimp only at hSw); (have k0 := blk_cell hSw.1.1 0; (try have k1 := hSw.2); go_simp; (first | done | with_reducible rfl | rw [if_neg (by omega)])))
                          simp only [Act.put, List.setIfInBounds_toArray, List.set_cons_zero, List.set_cons_succ]
                          refine wpAnyH_ready (rs := [2]) (by kernel_rfl) (by simp) ?_
                          refine AllReadyH.cons (o := { dst := some 56, op := Op.call { callee := Callee.value (Operand.func 67), args := #[Operand.tmp 55], argTypes := #[9] }, type := 4, pos := "ref.go:124", after := #[{ on := 1, ground := Ground.data }], guard := none }) rfl (fun K1 hK1 => ?_) AllReadyH.nil
                          go_simp; refine (ref01_Right_calls key _ (by first | omega | decide)).mono ?_; rw [hN]; rintro e w2 ⟨rfl, hb2⟩
                          refine hK1.out _ _ ?hS8 (fun hH1 => ?_)
                          case hS8 => ((try dsimp only); (exact ⟨⟨blk_below hb2 hH0.1.1, Kd.R_below hH0.1.2.1 hb2, keepB0 hb2 hH0.1.2.2.1, keepB0 hb2 hH0.1.2.2.2⟩, pw_cell_below hb2 hH0.2⟩))
                          clear hK1 K1
                          (try clear hH0)
                          (try simp only [Act.put, List.setIfInBounds_toArray, List.set_cons_zero, List.set_cons_succ])
                          refine takeY (oi := { dst := some 57, op := Op.unOp UnOp.not 4 (Operand.tmp 56), type := 4, pos := "ref.go:124", after := #[{ on := 2, ground := Ground.data }], guard := none }) 3 (some 57) (v := ?v3_8) rfl rfl (by kernel_rfl) (by kernel_rfl) (by kernel_rfl) (fun _ _ _ h => h) (by kernel_rfl) ?hy8 hH1 ?_
                          case hy8 => (intro w_ hSw; (try dsimp only at hSw); (have k0 := blk_cell hSw.1.1 0; (try have k1 := hSw.2); go_simp; (first | done | with_reducible rfl | rw [if_neg (by omega)])))
                          simp only [Act.put, List.setIfInBounds_toArray, List.set_cons_zero, List.set_cons_succ]
                          refine takeY (oi := { dst := some 58, op := Op.move (Operand.tmp 57), type := 4, pos := "ref.go:124", after := #[{ on := 3, ground := Ground.data }, { on := 2, ground := Ground.chain }], guard := none }) 4 (some 58) (v := ?v4_8) rfl rfl (by kernel_rfl) (by kernel_rfl) (by kernel_rfl) (fun _ _ _ h => h) (by kernel_rfl) ?hy8 hH1 ?_
                          case hy8 => (intro w_ hSw; (try dsimp only at hSw); (have k0 := blk_cell hSw.1.1 0; (try have k1 := hSw.2); go_simp; (first | done | with_reducible rfl | rw [if_neg (by omega)])))
                          simp only [Act.put, List.setIfInBounds_toArray, List.set_cons_zero, List.set_cons_succ]
                          refine takeY (oi := { dst := some 59, op := Op.move (Operand.tmp 8), type := 3, pos := "ref.go:124", after := #[{ on := 4, ground := Ground.guard }], guard := some (4, false) }) 5 (some 59) (v := ?v5_8) rfl rfl (by kernel_rfl) (by kernel_rfl) (by kernel_rfl) (fun _ _ _ h => h) (by kernel_rfl) ?hy8 hH1 ?_
                          case hy8 => (intro w_ hSw; (try dsimp only at hSw); (have k0 := blk_cell hSw.1.1 0; (try have k1 := hSw.2); go_simp; (first | done | with_reducible rfl | rw [if_neg (by omega)])))
                          simp only [Act.put, List.setIfInBounds_toArray, List.set_cons_zero, List.set_cons_succ]
                          refine takeY (oi := { dst := some 60, op := Op.binOp BinOp.gtr 3 (Operand.tmp 59) (Operand.const (Value.int IntKind.i64 0)) 3, type := 4, pos := "ref.go:124", after := #[{ on := 5, ground := Ground.data }, { on := 4, ground := Ground.guard }], guard := some (4, false) }) 6 (some 60) (v := ?v6_8) rfl rfl (by kernel_rfl) (by kernel_rfl) (by kernel_rfl) (fun _ _ _ h => h) (by kernel_rfl) ?hy8 hH1 ?_
                          case hy8 => (intro w_ hSw; (try dsimp only at hSw); (have k0 := blk_cell hSw.1.1 0; (try have k1 := hSw.2); go_simp; (first | done | with_reducible rfl | rw [if_neg (by omega)])))
                          simp only [Act.put, List.setIfInBounds_toArray, List.set_cons_zero, List.set_cons_succ]
                          refine takeY (oi := { dst := some 61, op := Op.move (Operand.tmp 60), type := 4, pos := "ref.go:124", after := #[{ on := 6, ground := Ground.data }, { on := 4, ground := Ground.chain }, { on := 4, ground := Ground.guard }], guard := some (4, false) }) 7 (some 61) (v := ?v7_8) rfl rfl (by kernel_rfl) (by kernel_rfl) (by kernel_rfl) (fun _ _ _ h => h) (by kernel_rfl) ?hy8 hH1 ?_
                          case hy8 => (intro w_ hSw; (try dsimp only at hSw); (have k0 := blk_cell hSw.1.1 0; (try have k1 := hSw.2); go_simp; (first | done | with_reducible rfl | rw [if_neg (by omega)])))
                          simp only [Act.put, List.setIfInBounds_toArray, List.set_cons_zero, List.set_cons_succ]
                          refine takeY (oi := { dst := some 62, op := Op.move (Operand.tmp 6), type := 22, pos := "ref.go:124", after := #[{ on := 7, ground := Ground.guard }], guard := some (7, true) }) 8 (some 62) (v := ?v8_8) rfl rfl (by kernel_rfl) (by kernel_rfl) (by kernel_rfl) (fun _ _ _ h => h) (by kernel_rfl) ?hy8 hH1 ?_
                          case hy8 => (intro w_ hSw; (try dsimp only at hSw); (have k0 := blk_cell hSw.1.1 0; (try have k1 := hSw.2); go_simp; (first | done | with_reducible rfl | rw [if_neg (by omega)])))
                          simp only [Act.put, List.setIfInBounds_toArray, List.set_cons_zero, List.set_cons_succ]
                          refine takeY (oi := { dst := some 63, op := Op.move (Operand.tmp 8), type := 3, pos := "ref.go:124", after := #[{ on := 7, ground := Ground.guard }], guard := some (7, true) }) 9 (some 63) (v := ?v9_8) rfl rfl (by kernel_rfl) (by kernel_rfl) (by kernel_rfl) (fun _ _ _ h => h) (by kernel_rfl) ?hy8 hH1 ?_
                          case hy8 => (intro w_ hSw; (try dsimp only at hSw); (have k0 := blk_cell hSw.1.1 0; (try have k1 := hSw.2); go_simp; (first | done | with_reducible rfl | rw [if_neg (by omega)])))
                          simp only [Act.put, List.setIfInBounds_toArray, List.set_cons_zero, List.set_cons_succ]
                          refine takeY (oi := { dst := some 64, op := Op.binOp BinOp.sub 3 (Operand.tmp 63) (Operand.const (Value.int IntKind.i64 1)) 3, type := 3, pos := "ref.go:124", after := #[{ on := 9, ground := Ground.data }, { on := 7, ground := Ground.guard }], guard := some (7, true) }) 10 (some 64) (v := ?v10_8) rfl rfl (by kernel_rfl) (by kernel_rfl) (by kernel_rfl) (fun _ _ _ h => h) (by kernel_rfl) ?hy8 hH1 ?_
                          case hy8 => (intro w_ hSw; (try dsimp only at hSw); (have k0 := blk_cell hSw.1.1 0; (try have k1 := hSw.2); go_simp; (first | done | with_reducible rfl | rw [if_neg (by omega)])))
                          simp only [Act.put, List.setIfInBounds_toArray, List.set_cons_zero, List.set_cons_succ]
                          refine takeY (oi := { dst := some 65, op := Op.indexAddr 22 (Operand.tmp 62) (Operand.tmp 64), type := 0, pos := "ref.go:124", after := #[{ on := 8, ground := Ground.data }, { on := 10, ground := Ground.data }, { on := 7, ground := Ground.guard }], guard := some (7, true) }) 11 (some 65) (v := ?v11_8) rfl rfl (by kernel_rfl) (by kernel_rfl) (by kernel_rfl) (fun _ _ _ h => h) (by kernel_rfl) ?hy8 hH1 ?_
                          case hy8 => (intro w_ hSw; (try dsimp only at hSw); (have k0 := blk_cell hSw.1.1 0; (try have k1 := hSw.2); go_simp; (first | done | with_reducible rfl | rw [if_neg (by omega)])))
                          simp only [Act.put, List.setIfInBounds_toArray, List.set_cons_zero, List.set_cons_succ]
                          refine takeY (oi := { dst := some 66, op := Op.fieldAddr 117 (Operand.tmp 65) 0, type := 0, pos := "ref.go:124", after := #[{ on := 11, ground := Ground.data }, { on := 7, ground := Ground.guard }], guard := some (7, true) }) 12 (some 66) (v := ?v12_8) rfl rfl (by kernel_rfl) (by kernel_rfl) (by kernel_rfl) (fun _ _ _ h => h) (by kernel_rfl) ?hy8 hH1 ?_
                          case hy8 => (intro w_ hSw; (try dsimp only at hSw); (have k0 := blk_cell hSw.1.1 0; (try have k1 := hSw.2); go_simp; (first | done | with_reducible rfl | rw [if_neg (by omega)])))
                          simp only [Act.put, List.setIfInBounds_toArray, List.set_cons_zero, List.set_cons_succ]
                          refine takeY (oi := { dst := some 67, op := Op.load 9 (Operand.tmp 66), type := 9, pos := "ref.go:124", after := #[{ on := 12, ground := Ground.data }, { on := 7, ground := Ground.guard }], guard := some (7, true) }) 13 (some 67) (v := ?v13_8) rfl rfl (by kernel_rfl) (by kernel_rfl) (by kernel_rfl) (fun _ _ _ h => h) (by kernel_rfl) ?hy8 hH1 ?_
                          case hy8 => (intro w_ hSw; (try dsimp only at hSw); (have k0 := blk_cell hSw.1.1 0; (try have k1 := hSw.2); go_simp; (first | done | with_reducible rfl | rw [if_neg (by omega)])))
                          simp only [Act.put, List.setIfInBounds_toArray, List.set_cons_zero, List.set_cons_succ]
                          refine takeY (oi := { dst := some 68, op := Op.fieldAddr 117 (Operand.tmp 10) 0, type := 0, pos := "ref.go:124", after := #[{ on := 7, ground := Ground.guard }], guard := some (7, true) }) 14 (some 68) (v := ?v14_8) rfl rfl (by kernel_rfl) (by kernel_rfl) (by kernel_rfl) (fun _ _ _ h => h) (by kernel_rfl) ?hy8 hH1 ?_
                          case hy8 => (intro w_ hSw; (try dsimp only at hSw); (have k0 := blk_cell hSw.1.1 0; (try have k1 := hSw.2); go_simp; (first | done | with_reducible rfl | rw [if_neg (by omega)])))
                          simp only [Act.put, List.setIfInBounds_toArray, List.set_cons_zero, List.set_cons_succ]
                          refine takeY (oi := { dst := some 69, op := Op.load 9 (Operand.tmp 68), type := 9, pos := "ref.go:124", after := #[{ on := 14, ground := Ground.data }, { on := 7, ground := Ground.guard }], guard := some (7, true) }) 15 (some 69) (v := ?v15_8) rfl rfl (by kernel_rfl) (by kernel_rfl) (by kernel_rfl) (fun _ _ _ h => h) (by kernel_rfl) ?hy8 hH1 ?_
                          case hy8 => (intro w_ hSw; (try dsimp only at hSw); (have k0 := blk_cell hSw.1.1 0; (try have k1 := hSw.2); go_simp; (first | done | with_reducible rfl | rw [if_neg (by omega)])))
                          simp only [Act.put, List.setIfInBounds_toArray, List.set_cons_zero, List.set_cons_succ]
                          refine wpAnyH_ready (rs := [16]) (by kernel_rfl) (by simp) ?_
                          refine AllReadyH.cons (o := { dst := some 70, op := Op.call { callee := Callee.value (Operand.func 106), args := #[Operand.tmp 67, Operand.tmp 69], argTypes := #[9, 9] }, type := 3, pos := "ref.go:124", after := #[{ on := 13, ground := Ground.data }, { on := 15, ground := Ground.data }, { on := 7, ground := Ground.chain }, { on := 7, ground := Ground.guard }], guard := some (7, true) }) rfl (fun K2 hK2 => ?_) AllReadyH.nil
                          go_simp; refine (ref01_Compare_calls p0 key _ (by omega) (by omega)).mono ?_; rintro e w3 ⟨rfl, hb3⟩
                          refine hK2.out _ _ ?hS8 (fun hH2 => ?_)
                          case hS8 => ((try dsimp only); (exact ⟨⟨blk_below hb3 hH1.1.1, Kd.R_below hH1.1.2.1 hb3, keepB0 hb3 hH1.1.2.2.1, keepB0 hb3 hH1.1.2.2.2⟩, pw_cell_below hb3 hH1.2⟩))
                          clear hK2 K2
                          (try clear hH1)
                          (try simp only [Act.put, List.setIfInBounds_toArray, List.set_cons_zero, List.set_cons_succ])
                          refine takeY (oi := { dst := some 71, op := Op.binOp BinOp.geq 3 (Operand.tmp 70) (Operand.const (Value.int IntKind.i64 0)) 3, type := 4, pos := "ref.go:124", after := #[{ on := 16, ground := Ground.data }, { on := 7, ground := Ground.guard }], guard := some (7, true) }) 17 (some 71) (v := ?v17_8) rfl rfl (by kernel_rfl) (by kernel_rfl) (by kernel_rfl) (fun _ _ _ h => h) (by kernel_rfl) ?hy8 hH2 ?_
                          case hy8 => (intro w_ hSw; (try dsimp only at hSw); (have k0 := blk_cell hSw.1.1 0; (try have k1 := hSw.2); go_simp; (first | done | with_reducible rfl | rw [if_neg (by omega)])))
                          simp only [Act.put, List.setIfInBounds_toArray, List.set_cons_zero, List.set_cons_succ]
                          refine takeY (oi := { dst := some 72, op := Op.pick (Operand.tmp 61) (Operand.tmp 71) (Operand.const (Value.bool false)), type := 4, pos := "ref.go:124", after := #[{ on := 7, ground := Ground.data }, { on := 17, ground := Ground.data }, { on := 4, ground := Ground.guard }], guard := some (4, false) }) 18 (some 72) (v := ?v18_8) rfl rfl (by kernel_rfl) (by kernel_rfl) (by kernel_rfl) (fun _ _ _ h => h) (by kernel_rfl) ?hy8 hH2 ?_
                          case hy8 => (intro w_ hSw; (try dsimp only at hSw); (have k0 := blk_cell hSw.1.1 0; (try have k1 := hSw.2); go_simp; (first | done | with_reducible rfl | rw [if_neg (by omega)])))
                          simp only [Act.put, List.setIfInBounds_toArray, List.set_cons_zero, List.set_cons_succ]
                          refine takeY (oi := { dst := some 73, op := Op.pick (Operand.tmp 58) (Operand.const (Value.bool true)) (Operand.tmp 72), type := 4, pos := "ref.go:124", after := #[{ on := 4, ground := Ground.data }, { on := 18, ground := Ground.data }], guard := none }) 19 (some 73) (v := ?v19_8) rfl rfl (by kernel_rfl) (by kernel_rfl) (by kernel_rfl) (fun _ _ _ h => h) (by kernel_rfl) ?hy8 hH2 ?_
                          case hy8 => (intro w_ hSw; (try dsimp only at hSw); (have k0 := blk_cell hSw.1.1 0; (try have k1 := hSw.2); go_simp; (first | done | with_reducible rfl | rw [if_neg (by omega)])))
                          simp only [Act.put, List.setIfInBounds_toArray, List.set_cons_zero, List.set_cons_succ]
                          refine wpAnyH_done (by kernel_rfl) ?_ _
                          have hEnd := hH2
                          clear hH2
                          have HZ := Lib.hid hEnd.1
                          clear hEnd
                          go_wp2_with (first
                            | (go_at_call 128; (with_reducible refine (HV.out _ HZ.out.2.2.2).mono ?_); rintro e' w4 ⟨rfl, hb4⟩; have HB4 := Lib.hid (keepB0 hb4 HZ.out.2.2.1); have K4 := blk_alloc (blk_below hb4 HZ.out.1) (.cells #[.int .i64 v0, .int .i64 v1, .string v2] 42); have HR4 := Lib.hid (Kd.R_alloc (Kd.R_below HZ.out.2.1 hb4) (.cells #[.int .i64 v0, .int .i64 v1, .string v2] 42)); clear hb4; have HK4 := Lib.hid K4; clear K4; have z1 : (w4.alloc (.cells #[.int .i64 v0, .int .i64 v1, .string v2] 42)).cell? ⟨wr.heap.size, 1, none⟩ = some (.int .i64 0) := blk_cell HK4.out 1; have z2 : (w4.alloc (.cells #[.int .i64 v0, .int .i64 v1, .string v2] 42)).cell? ⟨wr.heap.size, 2, none⟩ = some (.int .i64 0) := blk_cell HK4.out 2; have z3 : (w4.alloc (.cells #[.int .i64 v0, .int .i64 v1, .string v2] 42)).cell? ⟨wr.heap.size, 3, none⟩ = some (.string ⟨#[]⟩) := blk_cell HK4.out 3; have t1 := blk_frozen HK4.out 1; have t2 := blk_frozen HK4.out 2; have t3 := blk_frozen HK4.out 3; have K5 := blk_set (blk_set (blk_set HK4.out 1 (.int .i64 v0)) 2 (.int .i64 v1)) 3 (.string v2); have u0 := blk_cell K5 0; have u1 := blk_cell K5 1; have u2 := blk_cell K5 2; have u3 := blk_cell K5 3; clear K5; simp only [List.setIfInBounds_toArray, List.set_cons_succ, List.set_cons_zero, List.getElem?_toArray, List.getElem?_cons_zero, List.getElem?_cons_succ] at u0 u1 u2 u3; have HR5 := Lib.hid (Kd.R_mono (ok' := fun _ => True) (Kd.R_far (p := ⟨wr.heap.size, 3, none⟩) (Kd.R_far (p := ⟨wr.heap.size, 2, none⟩) (Kd.R_far (p := ⟨wr.heap.size, 1, none⟩) HR4.out (fun k hk => Nat.ne_of_lt hk) (.int .i64 v0)) (fun k hk => Nat.ne_of_lt hk) (.int .i64 v1)) (fun k hk => Nat.ne_of_lt hk) (.string v2)) (fun _ _ => trivial)); have HB5 := Lib.hid ((((keepB0 (below_al _ (.cells #[.int .i64 v0, .int .i64 v1, .string v2] 42)) HB4.out).setCell (p := ⟨wr.heap.size, 1, none⟩) HB.out.size (.int .i64 v0)).setCell (p := ⟨wr.heap.size, 2, none⟩) HB.out.size (.int .i64 v1)).setCell (p := ⟨wr.heap.size, 3, none⟩) HB.out.size (.string v2)))
                            | (at_builtin; (refine app_one HR5.out info_Prp Try.underlying22 (kPrp_mkM _ _ _ (⟨key, ⟨v0, v1, v2⟩⟩ : SPrp)) (fun _ _ => trivial) HB5.out.size (by omega) rfl (by decide) (by decide) rfl rfl rfl (by show Value.slice (some ⟨w4.heap.size + 1, 0, none⟩) 1 1 = _; simp [World.size_alloc, World.setCell]) ?_); intro vn w7 hR7 hb7 hg7 hat7; have HR2 := Lib.hid hR7; have HB2 := Lib.hid (HB5.out.trans hb7); clear hR7 hb7 hg7))
                          go_roundw
                          case rel => exact ⟨j + 1 + 1, a + 1 + key.size + m', _, by omega, by rw [List.length_append, HOL.out]; rfl, by omega, by omega, by go_num, by go_num, HFF, HB2, HR2, HE⟩
                          case measure => simp [intOf]; omega
                    · cases i with
                      | zero =>
                        have HE : Hid (tpGo b (x.toNat - (0 + 1) + 1) out a = ([], 0, e)) := Lib.hid (tpGo_bad (by rw [HK.out]; omega) (by rw [HKY.out, hN]; obtain rfl : out = [] := List.eq_nil_of_length_eq_zero HOL.out; simp [orderBad]) (by rw [HK.out]; exact HVV.out) he)
                        go_wp2_with fail
                        refine wp_region_held_drew (S := (fun w' => Blk w' wr.heap.size #[.string key, .int .i64 0, .int .i64 0, .string ⟨#[]⟩] 117 ∧ kPrp.R 117 w' w.heap.size (fun k => k < wr.heap.size) (.slice A5 out.length c5) out ∧ Below w.heap.size w w' ∧ Below wr.heap.size wr w')) (by kernel_rfl) ?hS9 (fun hH0 => ?_)
                        case hS9 => exact ⟨blk_drew (blk_new wr _ _), Kd.R_drew (Kd.R_alloc (Kd.R_mono (Kd.R_bound HR.out) (fun k hk => hk.2.2.1)) _), below_drew (keepB0 (below_al _ _) HB.out), below_drew (below_al _ _)⟩
                        refine takeY (oi := { dst := some 54, op := Op.fieldAddr 117 (Operand.tmp 10) 0, type := 0, pos := "ref.go:124", after := #[], guard := none }) 0 (some 54) (v := ?v0_9) rfl rfl (by kernel_rfl) (by kernel_rfl) (by kernel_rfl) (fun _ _ _ h => h) (by kernel_rfl) ?hy9 hH0 ?_
                        case hy9 => (intro w_ hSw; (try dsimp only at hSw); (have k0 := blk_cell hSw.1 0; (try have k1 := hSw.2); go_simp; (first | done | with_reducible rfl | rw [if_neg (by omega)])))
                        simp only [Act.put, List.setIfInBounds_toArray, List.set_cons_zero, List.set_cons_succ]
                        refine takeY (oi := { dst := some 55, op := Op.load 9 (Operand.tmp 54), type := 9, pos := "ref.go:124", after := #[{ on := 0, ground := Ground.data }], guard := none }) 1 (some 55) (v := ?v1_9) rfl rfl (by kernel_rfl) (by kernel_rfl) (by kernel_rfl) (fun _ _ _ h => h) (by kernel_rfl) ?hy9 hH0 ?_
                        case hy9 => (intro w_ hSw; (try dsimp only at hSw); (have k0 := blk_cell hSw.1 0; (try have k1 := hSw.2); go_simp; (first | done | with_reducible rfl | rw [if_neg (by omega)])))
                        simp only [Act.put, List.setIfInBounds_toArray, List.set_cons_zero, List.set_cons_succ]
                        refine wpAnyH_ready (rs := [2]) (by kernel_rfl) (by simp) ?_
                        refine AllReadyH.cons (o := { dst := some 56, op := Op.call { callee := Callee.value (Operand.func 67), args := #[Operand.tmp 55], argTypes := #[9] }, type := 4, pos := "ref.go:124", after := #[{ on := 1, ground := Ground.data }], guard := none }) rfl (fun K1 hK1 => ?_) AllReadyH.nil
                        go_simp; refine (ref01_Right_calls key _ (by first | omega | decide)).mono ?_; rw [hN]; rintro e w2 ⟨rfl, hb2⟩
                        refine hK1.out _ _ ?hS9 (fun hH1 => ?_)
                        case hS9 => ((try dsimp only); (exact ⟨blk_below hb2 hH0.1, Kd.R_below hH0.2.1 hb2, keepB0 hb2 hH0.2.2.1, keepB0 hb2 hH0.2.2.2⟩))
                        clear hK1 K1
                        (try clear hH0)
                        (try simp only [Act.put, List.setIfInBounds_toArray, List.set_cons_zero, List.set_cons_succ])
                        refine takeY (oi := { dst := some 57, op := Op.unOp UnOp.not 4 (Operand.tmp 56), type := 4, pos := "ref.go:124", after := #[{ on := 2, ground := Ground.data }], guard := none }) 3 (some 57) (v := ?v3_9) rfl rfl (by kernel_rfl) (by kernel_rfl) (by kernel_rfl) (fun _ _ _ h => h) (by kernel_rfl) ?hy9 hH1 ?_
                        case hy9 => (intro w_ hSw; (try dsimp only at hSw); (have k0 := blk_cell hSw.1 0; (try have k1 := hSw.2); go_simp; (first | done | with_reducible rfl | rw [if_neg (by omega)])))
                        simp only [Act.put, List.setIfInBounds_toArray, List.set_cons_zero, List.set_cons_succ]
                        refine takeY (oi := { dst := some 58, op := Op.move (Operand.tmp 57), type := 4, pos := "ref.go:124", after := #[{ on := 3, ground := Ground.data }, { on := 2, ground := Ground.chain }], guard := none }) 4 (some 58) (v := ?v4_9) rfl rfl (by kernel_rfl) (by kernel_rfl) (by kernel_rfl) (fun _ _ _ h => h) (by kernel_rfl) ?hy9 hH1 ?_
                        case hy9 => (intro w_ hSw; (try dsimp only at hSw); (have k0 := blk_cell hSw.1 0; (try have k1 := hSw.2); go_simp; (first | done | with_reducible rfl | rw [if_neg (by omega)])))
                        simp only [Act.put, List.setIfInBounds_toArray, List.set_cons_zero, List.set_cons_succ]
                        refine takeY (oi := { dst := some 59, op := Op.move (Operand.tmp 8), type := 3, pos := "ref.go:124", after := #[{ on := 4, ground := Ground.guard }], guard := some (4, false) }) 5 (some 59) (v := ?v5_9) rfl rfl (by kernel_rfl) (by kernel_rfl) (by kernel_rfl) (fun _ _ _ h => h) (by kernel_rfl) ?hy9 hH1 ?_
                        case hy9 => (intro w_ hSw; (try dsimp only at hSw); (have k0 := blk_cell hSw.1 0; (try have k1 := hSw.2); go_simp; (first | done | with_reducible rfl | rw [if_neg (by omega)])))
                        simp only [Act.put, List.setIfInBounds_toArray, List.set_cons_zero, List.set_cons_succ]
                        refine takeY (oi := { dst := some 60, op := Op.binOp BinOp.gtr 3 (Operand.tmp 59) (Operand.const (Value.int IntKind.i64 0)) 3, type := 4, pos := "ref.go:124", after := #[{ on := 5, ground := Ground.data }, { on := 4, ground := Ground.guard }], guard := some (4, false) }) 6 (some 60) (v := ?v6_9) rfl rfl (by kernel_rfl) (by kernel_rfl) (by kernel_rfl) (fun _ _ _ h => h) (by kernel_rfl) ?hy9 hH1 ?_
                        case hy9 => (intro w_ hSw; (try dsimp only at hSw); (have k0 := blk_cell hSw.1 0; (try have k1 := hSw.2); go_simp; (first | done | with_reducible rfl | rw [if_neg (by omega)])))
                        simp only [Act.put, List.setIfInBounds_toArray, List.set_cons_zero, List.set_cons_succ]
                        refine takeY (oi := { dst := some 61, op := Op.move (Operand.tmp 60), type := 4, pos := "ref.go:124", after := #[{ on := 6, ground := Ground.data }, { on := 4, ground := Ground.chain }, { on := 4, ground := Ground.guard }], guard := some (4, false) }) 7 (some 61) (v := ?v7_9) rfl rfl (by kernel_rfl) (by kernel_rfl) (by kernel_rfl) (fun _ _ _ h => h) (by kernel_rfl) ?hy9 hH1 ?_
                        case hy9 => (intro w_ hSw; (try dsimp only at hSw); (have k0 := blk_cell hSw.1 0; (try have k1 := hSw.2); go_simp; (first | done | with_reducible rfl | rw [if_neg (by omega)])))
                        simp only [Act.put, List.setIfInBounds_toArray, List.set_cons_zero, List.set_cons_succ]
                        refine takeN 8 (some 62) rfl (by kernel_rfl) (by kernel_rfl) (by kernel_rfl) (by kernel_rfl) (fun _ _ _ h => h) (by kernel_rfl) hH1 ?_
                        simp only [Act.put, List.setIfInBounds_toArray, List.set_cons_zero, List.set_cons_succ]
                        refine takeN 9 (some 63) rfl (by kernel_rfl) (by kernel_rfl) (by kernel_rfl) (by kernel_rfl) (fun _ _ _ h => h) (by kernel_rfl) hH1 ?_
                        simp only [Act.put, List.setIfInBounds_toArray, List.set_cons_zero, List.set_cons_succ]
                        refine takeN 10 (some 64) rfl (by kernel_rfl) (by kernel_rfl) (by kernel_rfl) (by kernel_rfl) (fun _ _ _ h => h) (by kernel_rfl) hH1 ?_
                        simp only [Act.put, List.setIfInBounds_toArray, List.set_cons_zero, List.set_cons_succ]
                        refine takeN 11 (some 65) rfl (by kernel_rfl) (by kernel_rfl) (by kernel_rfl) (by kernel_rfl) (fun _ _ _ h => h) (by kernel_rfl) hH1 ?_
                        simp only [Act.put, List.setIfInBounds_toArray, List.set_cons_zero, List.set_cons_succ]
                        refine takeN 12 (some 66) rfl (by kernel_rfl) (by kernel_rfl) (by kernel_rfl) (by kernel_rfl) (fun _ _ _ h => h) (by kernel_rfl) hH1 ?_
                        simp only [Act.put, List.setIfInBounds_toArray, List.set_cons_zero, List.set_cons_succ]
                        refine takeN 13 (some 67) rfl (by kernel_rfl) (by kernel_rfl) (by kernel_rfl) (by kernel_rfl) (fun _ _ _ h => h) (by kernel_rfl) hH1 ?_
                        simp only [Act.put, List.setIfInBounds_toArray, List.set_cons_zero, List.set_cons_succ]
                        refine takeN 14 (some 68) rfl (by kernel_rfl) (by kernel_rfl) (by kernel_rfl) (by kernel_rfl) (fun _ _ _ h => h) (by kernel_rfl) hH1 ?_
                        simp only [Act.put, List.setIfInBounds_toArray, List.set_cons_zero, List.set_cons_succ]
                        refine takeN 15 (some 69) rfl (by kernel_rfl) (by kernel_rfl) (by kernel_rfl) (by kernel_rfl) (fun _ _ _ h => h) (by kernel_rfl) hH1 ?_
                        simp only [Act.put, List.setIfInBounds_toArray, List.set_cons_zero, List.set_cons_succ]
                        refine takeN 16 (some 70) rfl (by kernel_rfl) (by kernel_rfl) (by kernel_rfl) (by kernel_rfl) (fun _ _ _ h => h) (by kernel_rfl) hH1 ?_
                        simp only [Act.put, List.setIfInBounds_toArray, List.set_cons_zero, List.set_cons_succ]
                        refine takeN 17 (some 71) rfl (by kernel_rfl) (by kernel_rfl) (by kernel_rfl) (by kernel_rfl) (fun _ _ _ h => h) (by kernel_rfl) hH1 ?_
                        simp only [Act.put, List.setIfInBounds_toArray, List.set_cons_zero, List.set_cons_succ]
                        refine takeY (oi := { dst := some 72, op := Op.pick (Operand.tmp 61) (Operand.tmp 71) (Operand.const (Value.bool false)), type := 4, pos := "ref.go:124", after := #[{ on := 7, ground := Ground.data }, { on := 17, ground := Ground.data }, { on := 4, ground := Ground.guard }], guard := some (4, false) }) 18 (some 72) (v := ?v18_9) rfl rfl (by kernel_rfl) (by kernel_rfl) (by kernel_rfl) (fun _ _ _ h => h) (by kernel_rfl) ?hy9 hH1 ?_
                        case hy9 => (intro w_ hSw; (try dsimp only at hSw); (have k0 := blk_cell hSw.1 0; (try have k1 := hSw.2); go_simp; (first | done | with_reducible rfl | rw [if_neg (by omega)])))
                        simp only [Act.put, List.setIfInBounds_toArray, List.set_cons_zero, List.set_cons_succ]
                        refine takeY (oi := { dst := some 73, op := Op.pick (Operand.tmp 58) (Operand.const (Value.bool true)) (Operand.tmp 72), type := 4, pos := "ref.go:124", after := #[{ on := 4, ground := Ground.data }, { on := 18, ground := Ground.data }], guard := none }) 19 (some 73) (v := ?v19_9) rfl rfl (by kernel_rfl) (by kernel_rfl) (by kernel_rfl) (fun _ _ _ h => h) (by kernel_rfl) ?hy9 hH1 ?_
                        case hy9 => (intro w_ hSw; (try dsimp only at hSw); (have k0 := blk_cell hSw.1 0; (try have k1 := hSw.2); go_simp; (first | done | with_reducible rfl | rw [if_neg (by omega)])))
                        simp only [Act.put, List.setIfInBounds_toArray, List.set_cons_zero, List.set_cons_succ]
                        refine wpAnyH_done (by kernel_rfl) ?_ _
                        have hEnd := hH1
                        clear hH1
                        have HZ := Lib.hid hEnd
                        clear hEnd
                        go_wp2_with (go_at_call 128; (with_reducible refine (HV.out _ HZ.out.2.2.2).mono ?_); rintro e' w4 ⟨rfl, hb4⟩; have HB4 := Lib.hid (keepB0 hb4 HZ.out.2.2.1); have K4 := blk_alloc (blk_below hb4 HZ.out.1) (.cells #[.int .i64 v0, .int .i64 v1, .string v2] 42); have HR4 := Lib.hid (Kd.R_alloc (Kd.R_below HZ.out.2.1 hb4) (.cells #[.int .i64 v0, .int .i64 v1, .string v2] 42)); clear hb4; have HK4 := Lib.hid K4; clear K4; have z1 : (w4.alloc (.cells #[.int .i64 v0, .int .i64 v1, .string v2] 42)).cell? ⟨wr.heap.size, 1, none⟩ = some (.int .i64 0) := blk_cell HK4.out 1; have z2 : (w4.alloc (.cells #[.int .i64 v0, .int .i64 v1, .string v2] 42)).cell? ⟨wr.heap.size, 2, none⟩ = some (.int .i64 0) := blk_cell HK4.out 2; have z3 : (w4.alloc (.cells #[.int .i64 v0, .int .i64 v1, .string v2] 42)).cell? ⟨wr.heap.size, 3, none⟩ = some (.string ⟨#[]⟩) := blk_cell HK4.out 3; have t1 := blk_frozen HK4.out 1; have t2 := blk_frozen HK4.out 2; have t3 := blk_frozen HK4.out 3; have K5 := blk_set (blk_set (blk_set HK4.out 1 (.int .i64 v0)) 2 (.int .i64 v1)) 3 (.string v2); have u0 := blk_cell K5 0; have u1 := blk_cell K5 1; have u2 := blk_cell K5 2; have u3 := blk_cell K5 3; clear K5; simp only [List.setIfInBounds_toArray, List.set_cons_succ, List.set_cons_zero, List.getElem?_toArray, List.getElem?_cons_zero, List.getElem?_cons_succ] at u0 u1 u2 u3; have HR5 := Lib.hid (Kd.R_mono (ok' := fun _ => True) (Kd.R_far (p := ⟨wr.heap.size, 3, none⟩) (Kd.R_far (p := ⟨wr.heap.size, 2, none⟩) (Kd.R_far (p := ⟨wr.heap.size, 1, none⟩) HR4.out (fun k hk => Nat.ne_of_lt hk) (.int .i64 v0)) (fun k hk => Nat.ne_of_lt hk) (.int .i64 v1)) (fun k hk => Nat.ne_of_lt hk) (.string v2)) (fun _ _ => trivial)); have HB5 := Lib.hid ((((keepB0 (below_al _ (.cells #[.int .i64 v0, .int .i64 v1, .string v2] 42)) HB4.out).setCell (p := ⟨wr.heap.size, 1, none⟩) HB.out.size (.int .i64 v0)).setCell (p := ⟨wr.heap.size, 2, none⟩) HB.out.size (.int .i64 v1)).setCell (p := ⟨wr.heap.size, 3, none⟩) HB.out.size (.string v2)))
                        refine bodyPost_ret (v := .tuple #[.slice none 0 0, .int .i64 0, .int .i64 (e)]) (by simp [results, Try.results108, go_sem]) rfl ⟨_, by rw [← HI2.out, HE.out], by rw [← HI2.out, HE.out]; exact Kd.R_nil _ _ _ _ _, keepB0 (below_al _ _) HB4.out⟩
                      | succ j =>
                        have hjo : (j : Int) < (out.length : Int) := by rw [HOL.out]; omega
                        have hjo2 : j < out.length := by omega
                        obtain ⟨ad5, e5, f0, -, -, -⟩ := at_Prp HC5.out (j : Int) (by omega) (by rw [HOL.out]; omega)
                        subst e5
                        simp only [Int.toNat_natCast, rd_Prp] at f0
                        have hpm := HF.out (out.getD j zPrp) (by rw [List.getD_eq_getElem?_getD, List.getElem?_eq_getElem (by rw [HOL.out]; omega)]; exact List.getElem_mem _)
                        have HLast := Lib.hid (orderBad_at (out := out) (j := j) (key := key) HOL.out)
                        have hwj1 : IntKind.i64.wrap (j : Int) = (j : Int) := IntWalk.i64_in _ (by omega)
                        have hwj2 : (0 : Int) ≤ (j : Int) := by omega
                        generalize (out.getD j zPrp).f0 = p0 at f0 HLast hpm
                        cases hO : decide (0 ≤ cmpS p0 key) with
                        | true =>
                          have HE : Hid (tpGo b (x.toNat - (j + 1 + 1) + 1) out a = ([], 0, 30)) := Lib.hid (tpGo_name (by rw [HK.out]; omega) (.inr (by rw [HKY.out, HLast.out, hO])))
                          go_wp2_with fail
                          refine wp_region_held_drew (S := (fun w' => (Blk w' wr.heap.size #[.string key, .int .i64 0, .int .i64 0, .string ⟨#[]⟩] 117 ∧ kPrp.R 117 w' w.heap.size (fun k => k < wr.heap.size) (.slice (some ad5) out.length c5) out ∧ Below w.heap.size w w' ∧ Below wr.heap.size wr w') ∧ w'.cell? (ad5.add (j * 4)) = some (.string p0))) (by kernel_rfl) ?hS10 (fun hH0 => ?_)
                          case hS10 => exact ⟨⟨blk_drew (blk_new wr _ _), Kd.R_drew (Kd.R_alloc (Kd.R_mono (Kd.R_bound HR.out) (fun k hk => hk.2.2.1)) _), below_drew (keepB0 (below_al _ _) HB.out), below_drew (below_al _ _)⟩, pw_cell_below (below_drew (below_al _ _)) f0⟩
                          refine takeY (oi := { dst := some 54, op := Op.fieldAddr 117 (Operand.tmp 10) 0, type := 0, pos := "ref.go:124", after := #[], guard := none }) 0 (some 54) (v := ?v0_10) rfl rfl (by kernel_rfl) (by kernel_rfl) (by kernel_rfl) (fun _ _ _ h => h) (by kernel_rfl) ?hy10 hH0 ?_
                          case hy10 => (intro w_ hSw; (try dsimp only at hSw); (have k0 := blk_cell hSw.1.1 0; (try have k1 := hSw.2); go_simp; (first | done | with_reducible rfl | rw [if_neg (by omega)])))
                          simp only [Act.put, List.setIfInBounds_toArray, List.set_cons_zero, List.set_cons_succ]
                          refine takeY (oi := { dst := some 55, op := Op.load 9 (Operand.tmp 54), type := 9, pos := "ref.go:124", after := #[{ on := 0, ground := Ground.data }], guard := none }) 1 (some 55) (v := ?v1_10) rfl rfl (by kernel_rfl) (by kernel_rfl) (by kernel_rfl) (fun _ _ _ h => h) (by kernel_rfl) ?hy10 hH0 ?_
                          case hy10 => (intro w_ hSw; (try dsimp only at hSw); (have k0 := blk_cell hSw.1.1 0; (try have k1 := hSw.2); go_simp; (first | done | with_reducible rfl | rw [if_neg (by omega)])))
                          simp only [Act.put, List.setIfInBounds_toArray, List.set_cons_zero, List.set_cons_succ]
                          refine wpAnyH_ready (rs := [2]) (by kernel_rfl) (by simp) ?_
                          refine AllReadyH.cons (o := { dst := some 56, op := Op.call { callee := Callee.value (Operand.func 67), args := #[Operand.tmp 55], argTypes := #[9] }, type := 4, pos := "ref.go:124", after := #[{ on := 1, ground := Ground.data }], guard := none }) rfl (fun K1 hK1 => ?_) AllReadyH.nil
                          go_simp; refine (ref01_Right_calls key _ (by first | omega | decide)).mono ?_; rw [hN]; rintro e w2 ⟨rfl, hb2⟩
                          refine hK1.out _ _ ?hS10 (fun hH1 => ?_)
                          case hS10 => ((try dsimp only); (exact ⟨⟨blk_below hb2 hH0.1.1, Kd.R_below hH0.1.2.1 hb2, keepB0 hb2 hH0.1.2.2.1, keepB0 hb2 hH0.1.2.2.2⟩, pw_cell_below hb2 hH0.2⟩))
                          clear hK1 K1
                          (try clear hH0)
                          (try simp only [Act.put, List.setIfInBounds_toArray, List.set_cons_zero, List.set_cons_succ])
                          refine takeY (oi := { dst := some 57, op := Op.unOp UnOp.not 4 (Operand.tmp 56), type := 4, pos := "ref.go:124", after := #[{ on := 2, ground := Ground.data }], guard := none }) 3 (some 57) (v := ?v3_10) rfl rfl (by kernel_rfl) (by kernel_rfl) (by kernel_rfl) (fun _ _ _ h => h) (by kernel_rfl) ?hy10 hH1 ?_
                          case hy10 => (intro w_ hSw; (try dsimp only at hSw); (have k0 := blk_cell hSw.1.1 0; (try have k1 := hSw.2); go_simp; (first | done | with_reducible rfl | rw [if_neg (by omega)])))
                          simp only [Act.put, List.setIfInBounds_toArray, List.set_cons_zero, List.set_cons_succ]
                          refine takeY (oi := { dst := some 58, op := Op.move (Operand.tmp 57), type := 4, pos := "ref.go:124", after := #[{ on := 3, ground := Ground.data }, { on := 2, ground := Ground.chain }], guard := none }) 4 (some 58) (v := ?v4_10) rfl rfl (by kernel_rfl) (by kernel_rfl) (by kernel_rfl) (fun _ _ _ h => h) (by kernel_rfl) ?hy10 hH1 ?_
                          case hy10 => (intro w_ hSw; (try dsimp only at hSw); (have k0 := blk_cell hSw.1.1 0; (try have k1 := hSw.2); go_simp; (first | done | with_reducible rfl | rw [if_neg (by omega)])))
                          simp only [Act.put, List.setIfInBounds_toArray, List.set_cons_zero, List.set_cons_succ]
                          refine takeY (oi := { dst := some 59, op := Op.move (Operand.tmp 8), type := 3, pos := "ref.go:124", after := #[{ on := 4, ground := Ground.guard }], guard := some (4, false) }) 5 (some 59) (v := ?v5_10) rfl rfl (by kernel_rfl) (by kernel_rfl) (by kernel_rfl) (fun _ _ _ h => h) (by kernel_rfl) ?hy10 hH1 ?_
                          case hy10 => (intro w_ hSw; (try dsimp only at hSw); (have k0 := blk_cell hSw.1.1 0; (try have k1 := hSw.2); go_simp; (first | done | with_reducible rfl | rw [if_neg (by omega)])))
                          simp only [Act.put, List.setIfInBounds_toArray, List.set_cons_zero, List.set_cons_succ]
                          refine takeY (oi := { dst := some 60, op := Op.binOp BinOp.gtr 3 (Operand.tmp 59) (Operand.const (Value.int IntKind.i64 0)) 3, type := 4, pos := "ref.go:124", after := #[{ on := 5, ground := Ground.data }, { on := 4, ground := Ground.guard }], guard := some (4, false) }) 6 (some 60) (v := ?v6_10) rfl rfl (by kernel_rfl) (by kernel_rfl) (by kernel_rfl) (fun _ _ _ h => h) (by kernel_rfl) ?hy10 hH1 ?_
                          case hy10 => (intro w_ hSw; (try dsimp only at hSw); (have k0 := blk_cell hSw.1.1 0; (try have k1 := hSw.2); go_simp; (first | done | with_reducible rfl | rw [if_neg (by omega)])))
                          simp only [Act.put, List.setIfInBounds_toArray, List.set_cons_zero, List.set_cons_succ]
                          refine takeY (oi := { dst := some 61, op := Op.move (Operand.tmp 60), type := 4, pos := "ref.go:124", after := #[{ on := 6, ground := Ground.data }, { on := 4, ground := Ground.chain }, { on := 4, ground := Ground.guard }], guard := some (4, false) }) 7 (some 61) (v := ?v7_10) rfl rfl (by kernel_rfl) (by kernel_rfl) (by kernel_rfl) (fun _ _ _ h => h) (by kernel_rfl) ?hy10 hH1 ?_
                          case hy10 => (intro w_ hSw; (try dsimp only at hSw); (have k0 := blk_cell hSw.1.1 0; (try have k1 := hSw.2); go_simp; (first | done | with_reducible rfl | rw [if_neg (by omega)])))
                          simp only [Act.put, List.setIfInBounds_toArray, List.set_cons_zero, List.set_cons_succ]
                          refine takeY (oi := { dst := some 62, op := Op.move (Operand.tmp 6), type := 22, pos := "ref.go:124", after := #[{ on := 7, ground := Ground.guard }], guard := some (7, true) }) 8 (some 62) (v := ?v8_10) rfl rfl (by kernel_rfl) (by kernel_rfl) (by kernel_rfl) (fun _ _ _ h => h) (by kernel_rfl) ?hy10 hH1 ?_
                          case hy10 => (intro w_ hSw; (try dsimp only at hSw); (have k0 := blk_cell hSw.1.1 0; (try have k1 := hSw.2); go_simp; (first | done | with_reducible rfl | rw [if_neg (by omega)])))
                          simp only [Act.put, List.setIfInBounds_toArray, List.set_cons_zero, List.set_cons_succ]
                          refine takeY (oi := { dst := some 63, op := Op.move (Operand.tmp 8), type := 3, pos := "ref.go:124", after := #[{ on := 7, ground := Ground.guard }], guard := some (7, true) }) 9 (some 63) (v := ?v9_10) rfl rfl (by kernel_rfl) (by kernel_rfl) (by kernel_rfl) (fun _ _ _ h => h) (by kernel_rfl) ?hy10 hH1 ?_
                          case hy10 => (intro w_ hSw; (try dsimp only at hSw); (have k0 := blk_cell hSw.1.1 0; (try have k1 := hSw.2); go_simp; (first | done | with_reducible rfl | rw [if_neg (by omega)])))
                          simp only [Act.put, List.setIfInBounds_toArray, List.set_cons_zero, List.set_cons_succ]
                          refine takeY (oi := { dst := some 64, op := Op.binOp BinOp.sub 3 (Operand.tmp 63) (Operand.const (Value.int IntKind.i64 1)) 3, type := 3, pos := "ref.go:124", after := #[{ on := 9, ground := Ground.data }, { on := 7, ground := Ground.guard }], guard := some (7, true) }) 10 (some 64) (v := ?v10_10) rfl rfl (by kernel_rfl) (by kernel_rfl) (by kernel_rfl) (fun _ _ _ h => h) (by kernel_rfl) ?hy10 hH1 ?_
                          case hy10 => (intro w_ hSw; (try dsimp only at hSw); (have k0 := blk_cell hSw.1.1 0; (try have k1 := hSw.2); go_simp; (first | done | with_reducible rfl | rw [if_neg (by omega)])))
                          simp only [Act.put, List.setIfInBounds_toArray, List.set_cons_zero, List.set_cons_succ]
                          refine takeY (oi := { dst := some 65, op := Op.indexAddr 22 (Operand.tmp 62) (Operand.tmp 64), type := 0, pos := "ref.go:124", after := #[{ on := 8, ground := Ground.data }, { on := 10, ground := Ground.data }, { on := 7, ground := Ground.guard }], guard := some (7, true) }) 11 (some 65) (v := ?v11_10) rfl rfl (by kernel_rfl) (by kernel_rfl) (by kernel_rfl) (fun _ _ _ h => h) (by kernel_rfl) ?hy10 hH1 ?_
                          case hy10 => (intro w_ hSw; (try dsimp only at hSw); (have k0 := blk_cell hSw.1.1 0; (try have k1 := hSw.2); go_simp; (first | done | with_reducible rfl | rw [if_neg (by omega)])))
                          simp only [Act.put, List.setIfInBounds_toArray, List.set_cons_zero, List.set_cons_succ]
                          refine takeY (oi := { dst := some 66, op := Op.fieldAddr 117 (Operand.tmp 65) 0, type := 0, pos := "ref.go:124", after := #[{ on := 11, ground := Ground.data }, { on := 7, ground := Ground.guard }], guard := some (7, true) }) 12 (some 66) (v := ?v12_10) rfl rfl (by kernel_rfl) (by kernel_rfl) (by kernel_rfl) (fun _ _ _ h => h) (by kernel_rfl) ?hy10 hH1 ?_
                          case hy10 => (intro w_ hSw; (try dsimp only at hSw); (have k0 := blk_cell hSw.1.1 0; (try have k1 := hSw.2); go_simp; (first | done | with_reducible rfl | rw [if_neg (by omega)])))
                          simp only [Act.put, List.setIfInBounds_toArray, List.set_cons_zero, List.set_cons_succ]
                          refine takeY (oi := { dst := some 67, op := Op.load 9 (Operand.tmp 66), type := 9, pos := "ref.go:124", after := #[{ on := 12, ground := Ground.data }, { on := 7, ground := Ground.guard }], guard := some (7, true) }) 13 (some 67) (v := ?v13_10) rfl rfl (by kernel_rfl) (by kernel_rfl) (by kernel_rfl) (fun _ _ _ h => h) (by kernel_rfl) ?hy10 hH1 ?_
                          case hy10 => (intro w_ hSw; (try dsimp only at hSw); (have k0 := blk_cell hSw.1.1 0; (try have k1 := hSw.2); go_simp; (first | done | with_reducible rfl | rw [if_neg (by omega)])))
                          simp only [Act.put, List.setIfInBounds_toArray, List.set_cons_zero, List.set_cons_succ]
                          refine takeY (oi := { dst := some 68, op := Op.fieldAddr 117 (Operand.tmp 10) 0, type := 0, pos := "ref.go:124", after := #[{ on := 7, ground := Ground.guard }], guard := some (7, true) }) 14 (some 68) (v := ?v14_10) rfl rfl (by kernel_rfl) (by kernel_rfl) (by kernel_rfl) (fun _ _ _ h => h) (by kernel_rfl) ?hy10 hH1 ?_
                          case hy10 => (intro w_ hSw; (try dsimp only at hSw); (have k0 := blk_cell hSw.1.1 0; (try have k1 := hSw.2); go_simp; (first | done | with_reducible rfl | rw [if_neg (by omega)])))
                          simp only [Act.put, List.setIfInBounds_toArray, List.set_cons_zero, List.set_cons_succ]
                          refine takeY (oi := { dst := some 69, op := Op.load 9 (Operand.tmp 68), type := 9, pos := "ref.go:124", after := #[{ on := 14, ground := Ground.data }, { on := 7, ground := Ground.guard }], guard := some (7, true) }) 15 (some 69) (v := ?v15_10) rfl rfl (by kernel_rfl) (by kernel_rfl) (by kernel_rfl) (fun _ _ _ h => h) (by kernel_rfl) ?hy10 hH1 ?_
                          case hy10 => (intro w_ hSw; (try dsimp only at hSw); (have k0 := blk_cell hSw.1.1 0; (try have k1 := hSw.2); go_simp; (first | done | with_reducible rfl | rw [if_neg (by omega)])))
                          simp only [Act.put, List.setIfInBounds_toArray, List.set_cons_zero, List.set_cons_succ]
                          refine wpAnyH_ready (rs := [16]) (by kernel_rfl) (by simp) ?_
                          refine AllReadyH.cons (o := { dst := some 70, op := Op.call { callee := Callee.value (Operand.func 106), args := #[Operand.tmp 67, Operand.tmp 69], argTypes := #[9, 9] }, type := 3, pos := "ref.go:124", after := #[{ on := 13, ground := Ground.data }, { on := 15, ground := Ground.data }, { on := 7, ground := Ground.chain }, { on := 7, ground := Ground.guard }], guard := some (7, true) }) rfl (fun K2 hK2 => ?_) AllReadyH.nil
                          go_simp; refine (ref01_Compare_calls p0 key _ (by omega) (by omega)).mono ?_; rintro e w3 ⟨rfl, hb3⟩
                          refine hK2.out _ _ ?hS10 (fun hH2 => ?_)
                          case hS10 => ((try dsimp only); (exact ⟨⟨blk_below hb3 hH1.1.1, Kd.R_below hH1.1.2.1 hb3, keepB0 hb3 hH1.1.2.2.1, keepB0 hb3 hH1.1.2.2.2⟩, pw_cell_below hb3 hH1.2⟩))
                          clear hK2 K2
                          (try clear hH1)
                          (try simp only [Act.put, List.setIfInBounds_toArray, List.set_cons_zero, List.set_cons_succ])
                          refine takeY (oi := { dst := some 71, op := Op.binOp BinOp.geq 3 (Operand.tmp 70) (Operand.const (Value.int IntKind.i64 0)) 3, type := 4, pos := "ref.go:124", after := #[{ on := 16, ground := Ground.data }, { on := 7, ground := Ground.guard }], guard := some (7, true) }) 17 (some 71) (v := ?v17_10) rfl rfl (by kernel_rfl) (by kernel_rfl) (by kernel_rfl) (fun _ _ _ h => h) (by kernel_rfl) ?hy10 hH2 ?_
                          case hy10 => (intro w_ hSw; (try dsimp only at hSw); (have k0 := blk_cell hSw.1.1 0; (try have k1 := hSw.2); go_simp; (first | done | with_reducible rfl | rw [if_neg (by omega)])))
                          simp only [Act.put, List.setIfInBounds_toArray, List.set_cons_zero, List.set_cons_succ]
                          refine takeY (oi := { dst := some 72, op := Op.pick (Operand.tmp 61) (Operand.tmp 71) (Operand.const (Value.bool false)), type := 4, pos := "ref.go:124", after := #[{ on := 7, ground := Ground.data }, { on := 17, ground := Ground.data }, { on := 4, ground := Ground.guard }], guard := some (4, false) }) 18 (some 72) (v := ?v18_10) rfl rfl (by kernel_rfl) (by kernel_rfl) (by kernel_rfl) (fun _ _ _ h => h) (by kernel_rfl) ?hy10 hH2 ?_
                          case hy10 => (intro w_ hSw; (try dsimp only at hSw); (have k0 := blk_cell hSw.1.1 0; (try have k1 := hSw.2); go_simp; (first | done | with_reducible rfl | rw [if_neg (by omega)])))
                          simp only [Act.put, List.setIfInBounds_toArray, List.set_cons_zero, List.set_cons_succ]
                          refine takeY (oi := { dst := some 73, op := Op.pick (Operand.tmp 58) (Operand.const (Value.bool true)) (Operand.tmp 72), type := 4, pos := "ref.go:124", after := #[{ on := 4, ground := Ground.data }, { on := 18, ground := Ground.data }], guard := none }) 19 (some 73) (v := ?v19_10) rfl rfl (by kernel_rfl) (by kernel_rfl) (by kernel_rfl) (fun _ _ _ h => h) (by kernel_rfl) ?hy10 hH2 ?_
                          case hy10 => (intro w_ hSw; (try dsimp only at hSw); (have k0 := blk_cell hSw.1.1 0; (try have k1 := hSw.2); go_simp; (first | done | with_reducible rfl | rw [if_neg (by omega)])))
                          simp only [Act.put, List.setIfInBounds_toArray, List.set_cons_zero, List.set_cons_succ]
                          refine wpAnyH_done (by kernel_rfl) ?_ _
                          have hEnd := hH2
                          clear hH2
                          have HZ := Lib.hid hEnd.1
                          clear hEnd
                          go_wp2
                          refine bodyPost_ret (v := .tuple #[.slice none 0 0, .int .i64 0, .int .i64 (30)]) (by simp [results, Try.results108, go_sem]) rfl ⟨_, by rw [← HI2.out, HE.out], by rw [← HI2.out, HE.out]; exact Kd.R_nil _ _ _ _ _, HZ.out.2.2.1⟩
                        | false =>
                          have HE : Hid (tpGo b (x.toNat - (j + 1 + 1) + 1) out a = ([], 0, e)) := Lib.hid (tpGo_bad (by rw [HK.out]; omega) (by rw [HKY.out, hN, HLast.out, hO]; simp) (by rw [HK.out]; exact HVV.out) he)
                          go_wp2_with fail
                          refine wp_region_held_drew (S := (fun w' => (Blk w' wr.heap.size #[.string key, .int .i64 0, .int .i64 0, .string ⟨#[]⟩] 117 ∧ kPrp.R 117 w' w.heap.size (fun k => k < wr.heap.size) (.slice (some ad5) out.length c5) out ∧ Below w.heap.size w w' ∧ Below wr.heap.size wr w') ∧ w'.cell? (ad5.add (j * 4)) = some (.string p0))) (by kernel_rfl) ?hS11 (fun hH0 => ?_)
                          case hS11 => exact ⟨⟨blk_drew (blk_new wr _ _), Kd.R_drew (Kd.R_alloc (Kd.R_mono (Kd.R_bound HR.out) (fun k hk => hk.2.2.1)) _), below_drew (keepB0 (below_al _ _) HB.out), below_drew (below_al _ _)⟩, pw_cell_below (below_drew (below_al _ _)) f0⟩
                          refine takeY (oi := { dst := some 54, op := Op.fieldAddr 117 (Operand.tmp 10) 0, type := 0, pos := "ref.go:124", after := #[], guard := none }) 0 (some 54) (v := ?v0_11) rfl rfl (by kernel_rfl) (by kernel_rfl) (by kernel_rfl) (fun _ _ _ h => h) (by kernel_rfl) ?hy11 hH0 ?_
                          case hy11 => (intro w_ hSw; (try dsimp only at hSw); (have k0 := blk_cell hSw.1.1 0; (try have k1 := hSw.2); go_simp; (first | done | with_reducible rfl | rw [if_neg (by omega)])))
                          simp only [Act.put, List.setIfInBounds_toArray, List.set_cons_zero, List.set_cons_succ]
                          refine takeY (oi := { dst := some 55, op := Op.load 9 (Operand.tmp 54), type := 9, pos := "ref.go:124", after := #[{ on := 0, ground := Ground.data }], guard := none }) 1 (some 55) (v := ?v1_11) rfl rfl (by kernel_rfl) (by kernel_rfl) (by kernel_rfl) (fun _ _ _ h => h) (by kernel_rfl) ?hy11 hH0 ?_
                          case hy11 => (intro w_ hSw; (try dsimp only at hSw); (have k0 := blk_cell hSw.1.1 0; (try have k1 := hSw.2); go_simp; (first | done | with_reducible rfl | rw [if_neg (by omega)])))
                          simp only [Act.put, List.setIfInBounds_toArray, List.set_cons_zero, List.set_cons_succ]
                          refine wpAnyH_ready (rs := [2]) (by kernel_rfl) (by simp) ?_
                          refine AllReadyH.cons (o := { dst := some 56, op := Op.call { callee := Callee.value (Operand.func 67), args := #[Operand.tmp 55], argTypes := #[9] }, type := 4, pos := "ref.go:124", after := #[{ on := 1, ground := Ground.data }], guard := none }) rfl (fun K1 hK1 => ?_) AllReadyH.nil
                          go_simp; refine (ref01_Right_calls key _ (by first | omega | decide)).mono ?_; rw [hN]; rintro e w2 ⟨rfl, hb2⟩
                          refine hK1.out _ _ ?hS11 (fun hH1 => ?_)
                          case hS11 => ((try dsimp only); (exact ⟨⟨blk_below hb2 hH0.1.1, Kd.R_below hH0.1.2.1 hb2, keepB0 hb2 hH0.1.2.2.1, keepB0 hb2 hH0.1.2.2.2⟩, pw_cell_below hb2 hH0.2⟩))
                          clear hK1 K1
                          (try clear hH0)
                          (try simp only [Act.put, List.setIfInBounds_toArray, List.set_cons_zero, List.set_cons_succ])
                          refine takeY (oi := { dst := some 57, op := Op.unOp UnOp.not 4 (Operand.tmp 56), type := 4, pos := "ref.go:124", after := #[{ on := 2, ground := Ground.data }], guard := none }) 3 (some 57) (v := ?v3_11) rfl rfl (by kernel_rfl) (by kernel_rfl) (by kernel_rfl) (fun _ _ _ h => h) (by kernel_rfl) ?hy11 hH1 ?_
                          case hy11 => (intro w_ hSw; (try dsimp only at hSw); (have k0 := blk_cell hSw.1.1 0; (try have k1 := hSw.2); go_simp; (first | done | with_reducible rfl | rw [if_neg (by omega)])))
                          simp only [Act.put, List.setIfInBounds_toArray, List.set_cons_zero, List.set_cons_succ]
                          refine takeY (oi := { dst := some 58, op := Op.move (Operand.tmp 57), type := 4, pos := "ref.go:124", after := #[{ on := 3, ground := Ground.data }, { on := 2, ground := Ground.chain }], guard := none }) 4 (some 58) (v := ?v4_11) rfl rfl (by kernel_rfl) (by kernel_rfl) (by kernel_rfl) (fun _ _ _ h => h) (by kernel_rfl) ?hy11 hH1 ?_
                          case hy11 => (intro w_ hSw; (try dsimp only at hSw); (have k0 := blk_cell hSw.1.1 0; (try have k1 := hSw.2); go_simp; (first | done | with_reducible rfl | rw [if_neg (by omega)])))
                          simp only [Act.put, List.setIfInBounds_toArray, List.set_cons_zero, List.set_cons_succ]
                          refine takeY (oi := { dst := some 59, op := Op.move (Operand.tmp 8), type := 3, pos := "ref.go:124", after := #[{ on := 4, ground := Ground.guard }], guard := some (4, false) }) 5 (some 59) (v := ?v5_11) rfl rfl (by kernel_rfl) (by kernel_rfl) (by kernel_rfl) (fun _ _ _ h => h) (by kernel_rfl) ?hy11 hH1 ?_
                          case hy11 => (intro w_ hSw; (try dsimp only at hSw); (have k0 := blk_cell hSw.1.1 0; (try have k1 := hSw.2); go_simp; (first | done | with_reducible rfl | rw [if_neg (by omega)])))
                          simp only [Act.put, List.setIfInBounds_toArray, List.set_cons_zero, List.set_cons_succ]
                          refine takeY (oi := { dst := some 60, op := Op.binOp BinOp.gtr 3 (Operand.tmp 59) (Operand.const (Value.int IntKind.i64 0)) 3, type := 4, pos := "ref.go:124", after := #[{ on := 5, ground := Ground.data }, { on := 4, ground := Ground.guard }], guard := some (4, false) }) 6 (some 60) (v := ?v6_11) rfl rfl (by kernel_rfl) (by kernel_rfl) (by kernel_rfl) (fun _ _ _ h => h) (by kernel_rfl) ?hy11 hH1 ?_
                          case hy11 => (intro w_ hSw; (try dsimp only at hSw); (have k0 := blk_cell hSw.1.1 0; (try have k1 := hSw.2); go_simp; (first | done | with_reducible rfl | rw [if_neg (by omega)])))
                          simp only [Act.put, List.setIfInBounds_toArray, List.set_cons_zero, List.set_cons_succ]
                          refine takeY (oi := { dst := some 61, op := Op.move (Operand.tmp 60), type := 4, pos := "ref.go:124", after := #[{ on := 6, ground := Ground.data }, { on := 4, ground := Ground.chain }, { on := 4, ground := Ground.guard }], guard := some (4, false) }) 7 (some 61) (v := ?v7_11) rfl rfl (by kernel_rfl) (by kernel_rfl) (by kernel_rfl) (fun _ _ _ h => h) (by kernel_rfl) ?hy11 hH1 ?_
                          case hy11 => (intro w_ hSw; (try dsimp only at hSw); (have k0 := blk_cell hSw.1.1 0; (try have k1 := hSw.2); go_simp; (first | done | with_reducible rfl | rw [if_neg (by omega)])))
                          simp only [Act.put, List.setIfInBounds_toArray, List.set_cons_zero, List.set_cons_succ]
                          refine takeY (oi := { dst := some 62, op := Op.move (Operand.tmp 6), type := 22, pos := "ref.go:124", after := #[{ on := 7, ground := Ground.guard }], guard := some (7, true) }) 8 (some 62) (v := ?v8_11) rfl rfl (by kernel_rfl) (by kernel_rfl) (by kernel_rfl) (fun _ _ _ h => h) (by kernel_rfl) ?hy11 hH1 ?_
                          case hy11 => (intro w_ hSw; (try dsimp only at hSw); (have k0 := blk_cell hSw.1.1 0; (try have k1 := hSw.2); go_simp; (first | done | with_reducible rfl | rw [if_neg (by omega)])))
                          simp only [Act.put, List.setIfInBounds_toArray, List.set_cons_zero, List.set_cons_succ]
                          refine takeY (oi := { dst := some 63, op := Op.move (Operand.tmp 8), type := 3, pos := "ref.go:124", after := #[{ on := 7, ground := Ground.guard }], guard := some (7, true) }) 9 (some 63) (v := ?v9_11) rfl rfl (by kernel_rfl) (by kernel_rfl) (by kernel_rfl) (fun _ _ _ h => h) (by kernel_rfl) ?hy11 hH1 ?_
                          case hy11 => (intro w_ hSw; (try dsimp only at hSw); (have k0 := blk_cell hSw.1.1 0; (try have k1 := hSw.2); go_simp; (first | done | with_reducible rfl | rw [if_neg (by omega)])))
                          simp only [Act.put, List.setIfInBounds_toArray, List.set_cons_zero, List.set_cons_succ]
                          refine takeY (oi := { dst := some 64, op := Op.binOp BinOp.sub 3 (Operand.tmp 63) (Operand.const (Value.int IntKind.i64 1)) 3, type := 3, pos := "ref.go:124", after := #[{ on := 9, ground := Ground.data }, { on := 7, ground := Ground.guard }], guard := some (7, true) }) 10 (some 64) (v := ?v10_11) rfl rfl (by kernel_rfl) (by kernel_rfl) (by kernel_rfl) (fun _ _ _ h => h) (by kernel_rfl) ?hy11 hH1 ?_
                          case hy11 => (intro w_ hSw; (try dsimp only at hSw); (have k0 := blk_cell hSw.1.1 0; (try have k1 := hSw.2); go_simp; (first | done | with_reducible rfl | rw [if_neg (by omega)])))
                          simp only [Act.put, List.setIfInBounds_toArray, List.set_cons_zero, List.set_cons_succ]
                          refine takeY (oi := { dst := some 65, op := Op.indexAddr 22 (Operand.tmp 62) (Operand.tmp 64), type := 0, pos := "ref.go:124", after := #[{ on := 8, ground := Ground.data }, { on := 10, ground := Ground.data }, { on := 7, ground := Ground.guard }], guard := some (7, true) }) 11 (some 65) (v := ?v11_11) rfl rfl (by kernel_rfl) (by kernel_rfl) (by kernel_rfl) (fun _ _ _ h => h) (by kernel_rfl) ?hy11 hH1 ?_
                          case hy11 => (intro w_ hSw; (try dsimp only at hSw); (have k0 := blk_cell hSw.1.1 0; (try have k1 := hSw.2); go_simp; (first | done | with_reducible rfl | rw [if_neg (by omega)])))
                          simp only [Act.put, List.setIfInBounds_toArray, List.set_cons_zero, List.set_cons_succ]
                          refine takeY (oi := { dst := some 66, op := Op.fieldAddr 117 (Operand.tmp 65) 0, type := 0, pos := "ref.go:124", after := #[{ on := 11, ground := Ground.data }, { on := 7, ground := Ground.guard }], guard := some (7, true) }) 12 (some 66) (v := ?v12_11) rfl rfl (by kernel_rfl) (by kernel_rfl) (by kernel_rfl) (fun _ _ _ h => h) (by kernel_rfl) ?hy11 hH1 ?_
                          case hy11 => (intro w_ hSw; (try dsimp only at hSw); (have k0 := blk_cell hSw.1.1 0; (try have k1 := hSw.2); go_simp; (first | done | with_reducible rfl | rw [if_neg (by omega)])))
                          simp only [Act.put, List.setIfInBounds_toArray, List.set_cons_zero, List.set_cons_succ]
                          refine takeY (oi := { dst := some 67, op := Op.load 9 (Operand.tmp 66), type := 9, pos := "ref.go:124", after := #[{ on := 12, ground := Ground.data }, { on := 7, ground := Ground.guard }], guard := some (7, true) }) 13 (some 67) (v := ?v13_11) rfl rfl (by kernel_rfl) (by kernel_rfl) (by kernel_rfl) (fun _ _ _ h => h) (by kernel_rfl) ?hy11 hH1 ?_
                          case hy11 => (intro w_ hSw; (try dsimp only at hSw); (have k0 := blk_cell hSw.1.1 0; (try have k1 := hSw.2); go_simp; (first | done | with_reducible rfl | rw [if_neg (by omega)])))
                          simp only [Act.put, List.setIfInBounds_toArray, List.set_cons_zero, List.set_cons_succ]
                          refine takeY (oi := { dst := some 68, op := Op.fieldAddr 117 (Operand.tmp 10) 0, type := 0, pos := "ref.go:124", after := #[{ on := 7, ground := Ground.guard }], guard := some (7, true) }) 14 (some 68) (v := ?v14_11) rfl rfl (by kernel_rfl) (by kernel_rfl) (by kernel_rfl) (fun _ _ _ h => h) (by kernel_rfl) ?hy11 hH1 ?_
                          case hy11 => (intro w_ hSw; (try dsimp only at hSw); (have k0 := blk_cell hSw.1.1 0; (try have k1 := hSw.2); go_simp; (first | done | with_reducible rfl | rw [if_neg (by omega)])))
                          simp only [Act.put, List.setIfInBounds_toArray, List.set_cons_zero, List.set_cons_succ]
                          refine takeY (oi := { dst := some 69, op := Op.load 9 (Operand.tmp 68), type := 9, pos := "ref.go:124", after := #[{ on := 14, ground := Ground.data }, { on := 7, ground := Ground.guard }], guard := some (7, true) }) 15 (some 69) (v := ?v15_11) rfl rfl (by kernel_rfl) (by kernel_rfl) (by kernel_rfl) (fun _ _ _ h => h) (by kernel_rfl) ?hy11 hH1 ?_
                          case hy11 => (intro w_ hSw; (try dsimp only at hSw); (have k0 := blk_cell hSw.1.1 0; (try have k1 := hSw.2); go_simp; (first | done | with_reducible rfl | rw [if_neg (by omega)])))
                          simp only [Act.put, List.setIfInBounds_toArray, List.set_cons_zero, List.set_cons_succ]
                          refine wpAnyH_ready (rs := [16]) (by kernel_rfl) (by simp) ?_
                          refine AllReadyH.cons (o := { dst := some 70, op := Op.call { callee := Callee.value (Operand.func 106), args := #[Operand.tmp 67, Operand.tmp 69], argTypes := #[9, 9] }, type := 3, pos := "ref.go:124", after := #[{ on := 13, ground := Ground.data }, { on := 15, ground := Ground.data }, { on := 7, ground := Ground.chain }, { on := 7, ground := Ground.guard }], guard := some (7, true) }) rfl (fun K2 hK2 => ?_) AllReadyH.nil
                          go_simp; refine (ref01_Compare_calls p0 key _ (by omega) (by omega)).mono ?_; rintro e w3 ⟨rfl, hb3⟩
                          refine hK2.out _ _ ?hS11 (fun hH2 => ?_)
                          case hS11 => ((try dsimp only); (exact ⟨⟨blk_below hb3 hH1.1.1, Kd.R_below hH1.1.2.1 hb3, keepB0 hb3 hH1.1.2.2.1, keepB0 hb3 hH1.1.2.2.2⟩, pw_cell_below hb3 hH1.2⟩))
                          clear hK2 K2
                          (try clear hH1)
                          (try simp only [Act.put, List.setIfInBounds_toArray, List.set_cons_zero, List.set_cons_succ])
                          refine takeY (oi := { dst := some 71, op := Op.binOp BinOp.geq 3 (Operand.tmp 70) (Operand.const (Value.int IntKind.i64 0)) 3, type := 4, pos := "ref.go:124", after := #[{ on := 16, ground := Ground.data }, { on := 7, ground := Ground.guard }], guard := some (7, true) }) 17 (some 71) (v := ?v17_11) rfl rfl (by kernel_rfl) (by kernel_rfl) (by kernel_rfl) (fun _ _ _ h => h) (by kernel_rfl) ?hy11 hH2 ?_
                          case hy11 => (intro w_ hSw; (try dsimp only at hSw); (have k0 := blk_cell hSw.1.1 0; (try have k1 := hSw.2); go_simp; (first | done | with_reducible rfl | rw [if_neg (by omega)])))
                          simp only [Act.put, List.setIfInBounds_toArray, List.set_cons_zero, List.set_cons_succ]
                          refine takeY (oi := { dst := some 72, op := Op.pick (Operand.tmp 61) (Operand.tmp 71) (Operand.const (Value.bool false)), type := 4, pos := "ref.go:124", after := #[{ on := 7, ground := Ground.data }, { on := 17, ground := Ground.data }, { on := 4, ground := Ground.guard }], guard := some (4, false) }) 18 (some 72) (v := ?v18_11) rfl rfl (by kernel_rfl) (by kernel_rfl) (by kernel_rfl) (fun _ _ _ h => h) (by kernel_rfl) ?hy11 hH2 ?_
                          case hy11 => (intro w_ hSw; (try dsimp only at hSw); (have k0 := blk_cell hSw.1.1 0; (try have k1 := hSw.2); go_simp; (first | done | with_reducible rfl | rw [if_neg (by omega)])))
                          simp only [Act.put, List.setIfInBounds_toArray, List.set_cons_zero, List.set_cons_succ]
                          refine takeY (oi := { dst := some 73, op := Op.pick (Operand.tmp 58) (Operand.const (Value.bool true)) (Operand.tmp 72), type := 4, pos := "ref.go:124", after := #[{ on := 4, ground := Ground.data }, { on := 18, ground := Ground.data }], guard := none }) 19 (some 73) (v := ?v19_11) rfl rfl (by kernel_rfl) (by kernel_rfl) (by kernel_rfl) (fun _ _ _ h => h) (by kernel_rfl) ?hy11 hH2 ?_
                          case hy11 => (intro w_ hSw; (try dsimp only at hSw); (have k0 := blk_cell hSw.1.1 0; (try have k1 := hSw.2); go_simp; (first | done | with_reducible rfl | rw [if_neg (by omega)])))
                          simp only [Act.put, List.setIfInBounds_toArray, List.set_cons_zero, List.set_cons_succ]
                          refine wpAnyH_done (by kernel_rfl) ?_ _
                          have hEnd := hH2
                          clear hH2
                          have HZ := Lib.hid hEnd.1
                          clear hEnd
                          go_wp2_with (go_at_call 128; (with_reducible refine (HV.out _ HZ.out.2.2.2).mono ?_); rintro e' w4 ⟨rfl, hb4⟩; have HB4 := Lib.hid (keepB0 hb4 HZ.out.2.2.1); have K4 := blk_alloc (blk_below hb4 HZ.out.1) (.cells #[.int .i64 v0, .int .i64 v1, .string v2] 42); have HR4 := Lib.hid (Kd.R_alloc (Kd.R_below HZ.out.2.1 hb4) (.cells #[.int .i64 v0, .int .i64 v1, .string v2] 42)); clear hb4; have HK4 := Lib.hid K4; clear K4; have z1 : (w4.alloc (.cells #[.int .i64 v0, .int .i64 v1, .string v2] 42)).cell? ⟨wr.heap.size, 1, none⟩ = some (.int .i64 0) := blk_cell HK4.out 1; have z2 : (w4.alloc (.cells #[.int .i64 v0, .int .i64 v1, .string v2] 42)).cell? ⟨wr.heap.size, 2, none⟩ = some (.int .i64 0) := blk_cell HK4.out 2; have z3 : (w4.alloc (.cells #[.int .i64 v0, .int .i64 v1, .string v2] 42)).cell? ⟨wr.heap.size, 3, none⟩ = some (.string ⟨#[]⟩) := blk_cell HK4.out 3; have t1 := blk_frozen HK4.out 1; have t2 := blk_frozen HK4.out 2; have t3 := blk_frozen HK4.out 3; have K5 := blk_set (blk_set (blk_set HK4.out 1 (.int .i64 v0)) 2 (.int .i64 v1)) 3 (.string v2); have u0 := blk_cell K5 0; have u1 := blk_cell K5 1; have u2 := blk_cell K5 2; have u3 := blk_cell K5 3; clear K5; simp only [List.setIfInBounds_toArray, List.set_cons_succ, List.set_cons_zero, List.getElem?_toArray, List.getElem?_cons_zero, List.getElem?_cons_succ] at u0 u1 u2 u3; have HR5 := Lib.hid (Kd.R_mono (ok' := fun _ => True) (Kd.R_far (p := ⟨wr.heap.size, 3, none⟩) (Kd.R_far (p := ⟨wr.heap.size, 2, none⟩) (Kd.R_far (p := ⟨wr.heap.size, 1, none⟩) HR4.out (fun k hk => Nat.ne_of_lt hk) (.int .i64 v0)) (fun k hk => Nat.ne_of_lt hk) (.int .i64 v1)) (fun k hk => Nat.ne_of_lt hk) (.string v2)) (fun _ _ => trivial)); have HB5 := Lib.hid ((((keepB0 (below_al _ (.cells #[.int .i64 v0, .int .i64 v1, .string v2] 42)) HB4.out).setCell (p := ⟨wr.heap.size, 1, none⟩) HB.out.size (.int .i64 v0)).setCell (p := ⟨wr.heap.size, 2, none⟩) HB.out.size (.int .i64 v1)).setCell (p := ⟨wr.heap.size, 3, none⟩) HB.out.size (.string v2)))
                          refine bodyPost_ret (v := .tuple #[.slice none 0 0, .int .i64 0, .int .i64 (e)]) (by simp [results, Try.results108, go_sem]) rfl ⟨_, by rw [← HI2.out, HE.out], by rw [← HI2.out, HE.out]; exact Kd.R_nil _ _ _ _ _, keepB0 (below_al _ _) HB4.out⟩
            · have hfit2 : ((b.length : Int) < (a : Int) + 1 + (k : Int)) := by omega
              have HK := Lib.hid hkk; clear hkk
              go_wp2
              refine bodyPost_ret (v := .tuple #[.slice none 0 0, .int .i64 0, .int .i64 20]) (by simp [results, Try.results108, go_sem]) rfl ⟨_, by rw [← HI2.out, tpGo_short (.inl (by rw [HK.out]; omega))], by rw [← HI2.out, tpGo_short (.inl (by rw [HK.out]; omega))]; exact Kd.R_nil _ _ _ _ _, HB.out⟩
          · have hal2 : ((b.length : Int) ≤ (a : Int)) := by omega
            go_wp2
            refine bodyPost_ret (v := .tuple #[.slice none 0 0, .int .i64 0, .int .i64 20]) (by simp [results, Try.results108, go_sem]) rfl ⟨_, by rw [← HI2.out, tpGo_short (.inr (by omega))], by rw [← HI2.out, tpGo_short (.inr (by omega))]; exact Kd.R_nil _ _ _ _ _, HB.out⟩
        · obtain rfl : x = (i : Int) := by omega
          have HI2 : Hid (takeP b = (out, (a : Int), 0)) := Lib.hid (by rw [← HI.out, show (i : Int).toNat - i = 0 by omega, tpGo])
          go_wp2
          refine bodyPost_ret (by simp [results, Try.results108, go_sem]; rfl) rfl ⟨_, by rw [HI2.out], by rw [HI2.out]; exact HR.out, HB.out⟩
end Go.Proofs.Ytonbnlfijmapfaa
