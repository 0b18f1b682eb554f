/- props.Bytes: what it answers at every list. No condition but on sizes and numbers. -/
import Derived.Test.YtonbnlfijmapfaaL7
import Derived.Test.YtonbnlfijmapfaaL9
import Derived.Test.YtonbnlfijmapfaaK3
namespace Go.Proofs.Ytonbnlfijmapfaa
open Go.RowKit Go.Shelf Go.Proofs.YtonbnlfijmapfaaW.PrintWords
set_option linter.unusedVariables false
set_option linter.unusedSimpArgs false

/-- Numbers that are of the machine's. -/
def ranged (ps : List SPrp) : Prop := ∀ p ∈ ps, -9223372036854775808 ≤ p.f1.f1 ∧ p.f1.f1 ≤ 9223372036854775807
def propBytes (p : SPrp) : List Int := ((p.f0.size : Int) % 256) :: (bytesOf p.f0 ++ valBytes p.f1.f0 p.f1.f1 p.f1.f2)
def propsBytes (ps : List SPrp) : List Int := (ps.length : Int) :: ps.flatMap propBytes

theorem propsFrom_ok : ∀ (l : List SPrp) (q : Option ByteArray), propsFrom q l = true → ∀ p ∈ l, nameRight p.f0 = true ∧ p.f1.ok = true
  | [], _, _, p, hp => by simp at hp
  | x :: t, q, h, p, hp => by
    simp only [propsFrom, Bool.and_eq_true] at h
    rcases List.mem_cons.1 hp with rfl | hp
    · exact ⟨h.1.1.1, h.1.1.2⟩
    · exact propsFrom_ok t _ h.2 p hp
theorem propsRight_ok {l : List SPrp} (h : propsRight l = true) : (∀ p ∈ l, nameRight p.f0 = true ∧ p.f1.ok = true) ∧ l.length ≤ 16 := by
  simp only [propsRight, Bool.and_eq_true, decide_eq_true_eq] at h
  exact ⟨propsFrom_ok l none h.1, h.2⟩

theorem valBytes_length {k n : Int} {s : ByteArray} (h : valOk k n s = true) : (valBytes k n s).length ≤ 500 := by
  unfold valBytes
  rcases thingV_cases k n s with h2 | h2 | h2
  · rw [h] at h2; cases h2.1
  · obtain ⟨_, rfl, _⟩ := h2; simp [intBytes_length]
  · obtain ⟨_, rfl, rfl, h3, _⟩ := h2
    have := esc_length (bytesOf s)
    rw [bytesOf_length] at this
    simp; omega
theorem flat_length : ∀ (l : List SPrp), (∀ p ∈ l, p.f1.ok = true) → fits l → (l.flatMap propBytes).length ≤ 100501 * l.length
  | [], _, _ => by simp
  | p :: t, h, hf => by
    have h1 := flat_length t (fun p hp => h p (List.mem_cons_of_mem _ hp)) (fun p hp => hf p (List.mem_cons_of_mem _ hp))
    have h2 := valBytes_length (k := p.f1.f0) (n := p.f1.f1) (s := p.f1.f2) (h p List.mem_cons_self)
    have h3 := hf p List.mem_cons_self
    simp only [List.flatMap_cons, List.length_append, propBytes, List.length_cons, bytesOf_length]
    omega
theorem flat_take (l : List SPrp) (k : Nat) (h : k < l.length) : (l.take (k + 1)).flatMap propBytes = (l.take k).flatMap propBytes ++ propBytes (l.getD k zPrp) := by
  rw [List.take_succ_eq_append_getElem h]
  simp only [List.flatMap_append, List.getD_eq_getElem?_getD, List.getElem?_eq_getElem h, Option.getD_some, List.flatMap_cons, List.flatMap_nil, List.append_nil]

/-- A row of scalars that was made behind another row's block: it is read as before, behind two appends onto that one. -/
theorem C_behind {α : Type} {d : Kd α} (hE : d.E = []) {T base n c : Nat} {W w2 w3 : World} {A : Option Addr} {xs : List α} (h : d.R T W base (fun _ => True) (.slice A n c) xs) {v4 v2 : Value} (hv : ∀ k, v4.ownBlock = some k → k < base)
    (hg2 : W.drew.grownBy w2 v4.ownBlock) (hg3 : w2.grownBy w3 v2.ownBlock) (hat : v2.ownBlock = v4.ownBlock ∨ ∃ b, v2.ownBlock = some b ∧ W.drew.heap.size ≤ b) : d.C w3 A xs.length xs := by
  have hb := Kd.R_base h
  have hlt := Kd.R_lt h
  have h2 := Kd.R_grown2 (Kd.R_drew h) hE hg2 (fun k hk e => by have := hv k hk; have := hb k e.symm; omega)
  have h3 := Kd.R_grown2 h2 hE hg3 (fun k hk e => by
    rcases hat with h | ⟨b, hb', hle⟩
    · rw [h] at hk; have := hv k hk; have := hb k e.symm; omega
    · rw [hb'] at hk; injection hk with hk; have := hlt k e.symm; simp at hle; omega)
  exact (Kd.R_reads' h3).2.2

set_option maxHeartbeats 4000000 in
set_option maxRecDepth 100000 in
theorem props_Bytes_calls (A : Option Addr) (c : Nat) (l : List SPrp) (w : World) (h : kPrp.C w A l.length l) (hf : fits l) (hg : ranged l) (hr : propsRight l = true) :
    Calls Try.prog 104 #[.slice A l.length c] w (RetBytes w (propsBytes l)) := by
  have hm := Kd.C_max h
  obtain ⟨hok, h16⟩ := propsRight_ok hr
  have HX := Lib.hid h; clear h
  have HF := Lib.hid hf; clear hf
  have HG := Lib.hid hg; clear hg
  have HO := Lib.hid hok; clear hok
  go_enter Try.func104, Try.ntmps104
  go_wp2_with (go_at_call 86; refine (props_Right_calls _ _ _ _ HX.out HF.out).mono ?_; rw [hr]; rintro e w1 ⟨rfl, hb1⟩)
  have HB1 := Lib.hid hb1; clear hb1
  go_loopw [4, 18] (fun v4 v18 wr => ∃ (k : Nat), k ≤ l.length ∧ v18 = .int .i64 k ∧ Hid (Below w.heap.size w wr) ∧ Hid ((Kd.int .u8).R 5 wr w.heap.size (fun _ => True) v4 ((l.length : Int) :: (l.take k).flatMap propBytes))) (fun _ v18 _ => l.length - (intOf v18).toNat)
  case atStart => exact ⟨0, by omega, rfl, Lib.hid (keepB0 (below_al _ _) HB1.out), Lib.hid (R_box1 _ .u8 HB1.out.size)⟩
  case round =>
    obtain ⟨k, hk, rfl, HB, HR⟩ := hrel
    by_cases hlt : k < l.length
    · have hlt2 : (k : Int) < (l.length : Int) := by omega
      have hmem : l.getD k zPrp ∈ l := by simp [List.getD_eq_getElem?_getD, List.getElem?_eq_getElem hlt]
      have hs := HF.out _ hmem
      have hrg := HG.out _ hmem
      have hvo := (HO.out _ hmem).2
      have HT := Lib.hid (flat_take l k hlt)
      have hL := flat_length (l.take k) (fun p hp => (HO.out p (List.mem_of_mem_take hp)).2) (fun p hp => HF.out p (List.mem_of_mem_take hp))
      have hL2 := List.length_take_le k l
      obtain ⟨ad, rfl, g0, g1, g2, g3⟩ := at_Prp (Kd.C_below HX.out HB.out) (k : Int) (by omega) (by omega)
      simp only [Int.toNat_natCast, rd_Prp] at g0 g1 g2 g3
      cases hy : l.getD k zPrp with
      | mk y0 yv =>
      cases yv with
      | mk y1 y2 y3 =>
      rw [hy] at g0 g1 g2 g3 hs hrg hvo HT
      clear hy hmem
      simp only at g0 g1 g2 g3 hs hrg hvo
      have hvl := valBytes_length (k := y1) (n := y2) (s := y3) hvo
      go_wp2_with (go_at_call 72; refine (value_Bytes_calls y1 y2 y3 _ hrg.1 hrg.2 hvo).mono ?_; rintro e w7 ⟨v7, rfl, hR7, hb7⟩; have HR7 := Lib.hid hR7; have HB7 := Lib.hid hb7; clear hR7 hb7)
      have HR4 := Lib.hid (Kd.R_drew (Kd.R_below (Kd.R_alloc HR.out _) HB7.out))
      have HB0 : Below w.heap.size w w7.drew := below_drew (keepB0 HB7.out (keepB0 (below_al _ _) HB.out))
      have hLL : ((l.take k).flatMap propBytes).length ≤ 2000000 := by omega
      clear hL hL2
      generalize (l.take k).flatMap propBytes = X at HR HR4 HT hLL
      have hB4 : w.heap.size ≤ w7.drew.heap.size := by have h1 := HB.out.size; have h2 := HB7.out.size; simp at h2 ⊢; omega
      obtain ⟨A7, c7, rfl, -, -⟩ := Kd.R_reads HR7.out
      have hC7 := fun v2 w2 w3 hg2 hg3 hat => C_behind (v4 := u4) (v2 := v2) (w2 := w2) (w3 := w3) rfl HR7.out (fun k hk => Nat.lt_of_lt_of_le (Kd.R_lt HR.out k hk) (by simp)) hg2 hg3 hat
      go_wp2_with fail
      refine wp_region_held_drew (S := (fun w' => Blk w' wr.heap.size #[.string y0, .int .i64 y1, .int .i64 y2, .string y3] 117 ∧ Below w.heap.size w w')) (by kernel_rfl) ?hS6 (fun hH0 => ?_)
      case hS6 => refine ⟨blk_drew (blk_below HB7.out (blk_new wr _ _)), below_drew (keepB0 HB7.out (keepB0 (below_al _ _) HB.out))⟩
      refine takeY (oi := { dst := some 28, op := Op.move (Operand.tmp 4), type := 46, pos := "props.go:73", after := #[], guard := none }) 0 (some 28) (v := ?v0_6) rfl rfl (by kernel_rfl) (by kernel_rfl) (by kernel_rfl) (fun _ _ _ h => h) (by kernel_rfl) ?hy6 hH0 ?_
      case hy6 => (intro w_ hSw; (try dsimp only at hSw); go_simp; (first | done | with_reducible rfl | rw [if_neg (by omega)]))
      simp only [Act.put, List.setIfInBounds_toArray, List.set_cons_zero, List.set_cons_succ]
      refine takeY (oi := { dst := some 29, op := Op.fieldAddr 117 (Operand.tmp 6) 0, type := 0, pos := "props.go:73", after := #[], guard := none }) 1 (some 29) (v := ?v1_6) rfl rfl (by kernel_rfl) (by kernel_rfl) (by kernel_rfl) (fun _ _ _ h => h) (by kernel_rfl) ?hy6 hH0 ?_
      case hy6 => (intro w_ hSw; (try dsimp only at hSw); go_simp; (first | done | with_reducible rfl | rw [if_neg (by omega)]))
      simp only [Act.put, List.setIfInBounds_toArray, List.set_cons_zero, List.set_cons_succ]
      refine takeY (oi := { dst := some 30, op := Op.load 9 (Operand.tmp 29), type := 9, pos := "props.go:73", after := #[{ on := 1, ground := Ground.data }], guard := none }) 2 (some 30) (v := ?v2_6) rfl rfl (by kernel_rfl) (by kernel_rfl) (by kernel_rfl) (fun _ _ _ h => h) (by kernel_rfl) ?hy6 hH0 ?_
      case hy6 => (intro w_ hSw; (try dsimp only at hSw); (have hc := blk_cell hSw.1 0; go_simp; (first | done | with_reducible rfl)))
      simp only [Act.put, List.setIfInBounds_toArray, List.set_cons_zero, List.set_cons_succ]
      refine takeY (oi := { dst := some 31, op := Op.call { callee := Callee.builtin Builtin.len, args := #[Operand.tmp 30], argTypes := #[9] }, type := 3, pos := "props.go:73", after := #[{ on := 2, ground := Ground.data }], guard := none }) 3 (some 31) (v := ?v3_6) rfl rfl (by kernel_rfl) (by kernel_rfl) (by kernel_rfl) (fun _ _ _ h => h) (by kernel_rfl) ?hy6 hH0 ?_
      case hy6 => (intro w_ hSw; (try dsimp only at hSw); go_simp; (first | done | with_reducible rfl | rw [if_neg (by omega)]))
      simp only [Act.put, List.setIfInBounds_toArray, List.set_cons_zero, List.set_cons_succ]
      refine takeY (oi := { dst := some 32, op := Op.convert 3 5 (Operand.tmp 31), type := 5, pos := "props.go:73", after := #[{ on := 3, ground := Ground.data }], guard := none }) 4 (some 32) (v := ?v4_6) rfl rfl (by kernel_rfl) (by kernel_rfl) (by kernel_rfl) (fun _ _ _ h => h) (by kernel_rfl) ?hy6 hH0 ?_
      case hy6 => (intro w_ hSw; (try dsimp only at hSw); go_simp; (first | done | with_reducible rfl | rw [if_neg (by omega)]))
      simp only [Act.put, List.setIfInBounds_toArray, List.set_cons_zero, List.set_cons_succ]
      refine takeY (oi := { dst := some 35, op := Op.fieldAddr 117 (Operand.tmp 6) 0, type := 0, pos := "props.go:73", after := #[], guard := none }) 7 (some 35) (v := ?v7_6) rfl rfl (by kernel_rfl) (by kernel_rfl) (by kernel_rfl) (fun _ _ _ h => h) (by kernel_rfl) ?hy6 hH0 ?_
      case hy6 => (intro w_ hSw; (try dsimp only at hSw); go_simp; (first | done | with_reducible rfl | rw [if_neg (by omega)]))
      simp only [Act.put, List.setIfInBounds_toArray, List.set_cons_zero, List.set_cons_succ]
      refine takeY (oi := { dst := some 36, op := Op.load 9 (Operand.tmp 35), type := 9, pos := "props.go:73", after := #[{ on := 7, ground := Ground.data }], guard := none }) 8 (some 36) (v := ?v8_6) rfl rfl (by kernel_rfl) (by kernel_rfl) (by kernel_rfl) (fun _ _ _ h => h) (by kernel_rfl) ?hy6 hH0 ?_
      case hy6 => (intro w_ hSw; (try dsimp only at hSw); (have hc := blk_cell hSw.1 0; go_simp; (first | done | with_reducible rfl)))
      simp only [Act.put, List.setIfInBounds_toArray, List.set_cons_zero, List.set_cons_succ]
      refine takeY (oi := { dst := some 38, op := Op.move (Operand.tmp 7), type := 46, pos := "props.go:73", after := #[], guard := none }) 10 (some 38) (v := ?v10_6) rfl rfl (by kernel_rfl) (by kernel_rfl) (by kernel_rfl) (fun _ _ _ h => h) (by kernel_rfl) ?hy6 hH0 ?_
      case hy6 => (intro w_ hSw; (try dsimp only at hSw); go_simp; (first | done | with_reducible rfl | rw [if_neg (by omega)]))
      simp only [Act.put, List.setIfInBounds_toArray, List.set_cons_zero, List.set_cons_succ]
      refine wpAnyH_ready (rs := [5]) (by kernel_rfl) (by simp) ?_
      refine AllReadyH.cons (o := { dst := some 33, op := Op.buildSlice 46 1 #[(0, Operand.tmp 32)], type := 46, pos := "props.go:73", after := #[{ on := 4, ground := Ground.data }], guard := none }) rfl (fun K1 hK1 => ?_) AllReadyH.nil
      go_simp
      refine hK1.out _ _ ?hS6 (fun hH1 => ?_)
      case hS6 => ((try dsimp only); (exact ⟨blk_drew (blk_alloc hH0.1 _), keepB0 (below_al _ _) hH0.2⟩))
      clear hK1 K1
      (try clear hH0)
      (try simp only [Act.put, List.setIfInBounds_toArray, List.set_cons_zero, List.set_cons_succ])
      refine wpAnyH_ready (rs := [6]) (by kernel_rfl) (by simp) ?_
      refine AllReadyH.cons (o := { dst := some 34, op := Op.call { callee := Callee.builtin Builtin.append, args := #[Operand.tmp 28, Operand.tmp 33], argTypes := #[46, 46] }, type := 46, pos := "props.go:73", after := #[{ on := 0, ground := Ground.data }, { on := 5, ground := Ground.data }], guard := none }) rfl (fun K2 hK2 => ?_) AllReadyH.nil
      obtain ⟨v2, w2, hr2, hR2, hb2, hg2, hat2⟩ := run_app_one (ty := 46) HR4.out info_u8 Try.underlying46 (M_int ((y0.size : Int) % 256)) (fun _ _ => trivial) hB4 (by simp only [List.length_cons, List.length_append, bytesOf_length, List.length_nil]; omega) rfl (by decide) (by decide); refine step_app (by kernel_rfl) rfl rfl rfl hr2 ?_
      refine hK2.out _ _ ?hS6 (fun hH2 => ?_)
      case hS6 => ((try dsimp only); (exact ⟨blk_grown (blk_drew (blk_below HB7.out (blk_new wr _ _))) HR4.out hg2 (by decide), HB0.trans hb2⟩))
      clear hK2 K2
      (try clear hH1)
      (try simp only [Act.put, List.setIfInBounds_toArray, List.set_cons_zero, List.set_cons_succ])
      refine wpAnyH_ready (rs := [9]) (by kernel_rfl) (by simp) ?_
      refine AllReadyH.cons (o := { dst := some 37, op := Op.call { callee := Callee.builtin Builtin.append, args := #[Operand.tmp 34, Operand.tmp 36], argTypes := #[46, 9] }, type := 46, pos := "props.go:73", after := #[{ on := 6, ground := Ground.data }, { on := 8, ground := Ground.data }, { on := 6, ground := Ground.chain }], guard := none }) rfl (fun K3 hK3 => ?_) AllReadyH.nil
      obtain ⟨v3, w3, hr3, hR3, hb3, hg3⟩ := run_app_str (ty := 46) hR2 y0 Try.underlying46 Try.underlying9 info_u8 (Nat.le_trans hB4 hb2.size) (by simp only [List.length_cons, List.length_append, bytesOf_length, List.length_nil]; omega); refine step_app (by kernel_rfl) rfl rfl rfl hr3 ?_
      refine hK3.out _ _ ?hS6 (fun hH3 => ?_)
      case hS6 => ((try dsimp only); (exact ⟨blk_grown hH2.1 hR2 hg3 (by decide), hH2.2.trans hb3⟩))
      clear hK3 K3
      (try clear hH2)
      (try simp only [Act.put, List.setIfInBounds_toArray, List.set_cons_zero, List.set_cons_succ])
      refine wpAnyH_ready (rs := [11]) (by kernel_rfl) (by simp) ?_
      refine AllReadyH.cons (o := { dst := some 39, op := Op.call { callee := Callee.builtin Builtin.append, args := #[Operand.tmp 37, Operand.tmp 38], argTypes := #[46, 46] }, type := 46, pos := "props.go:73", after := #[{ on := 9, ground := Ground.data }, { on := 10, ground := Ground.data }, { on := 9, ground := Ground.chain }], guard := none }) rfl (fun K4 hK4 => ?_) AllReadyH.nil
      obtain ⟨v5, w5, hr5, hR5, hb5, hg5, -⟩ := run_app_row (ty := 46) hR3 (hC7 _ _ _ hg2 hg3 hat2) Try.underlying46 info_u8 rfl (by decide) (fun _ _ => trivial) (Nat.le_trans (Nat.le_trans hB4 hb2.size) hb3.size) (by simp only [List.length_cons, List.length_append, bytesOf_length, List.length_nil]; omega); refine step_app (by kernel_rfl) rfl rfl rfl hr5 ?_
      refine hK4.out _ _ ?hS6 (fun hH4 => ?_)
      case hS6 => ((try dsimp only); (exact ⟨blk_grown hH3.1 hR3 hg5 (by decide), hH3.2.trans hb5⟩))
      clear hK4 K4
      (try clear hH3)
      (try simp only [Act.put, List.setIfInBounds_toArray, List.set_cons_zero, List.set_cons_succ])
      refine takeY (oi := { dst := some 4, op := Op.assign (Operand.tmp 39), type := 46, pos := "props.go:73", after := #[{ on := 11, ground := Ground.data }, { on := 11, ground := Ground.chain }, { on := 0, ground := Ground.phase }, { on := 1, ground := Ground.phase }, { on := 2, ground := Ground.phase }, { on := 3, ground := Ground.phase }, { on := 4, ground := Ground.phase }, { on := 5, ground := Ground.phase }, { on := 6, ground := Ground.phase }, { on := 7, ground := Ground.phase }, { on := 8, ground := Ground.phase }, { on := 9, ground := Ground.phase }, { on := 10, ground := Ground.phase }, { on := 11, ground := Ground.phase }], guard := none }) 12 (some 4) (v := ?v12_6) rfl rfl (by kernel_rfl) (by kernel_rfl) (by kernel_rfl) (fun _ _ _ h => h) (by kernel_rfl) ?hy6 hH4 ?_
      case hy6 => (intro w_ hSw; (try dsimp only at hSw); go_simp; (first | done | with_reducible rfl | rw [if_neg (by omega)]))
      simp only [Act.put, List.setIfInBounds_toArray, List.set_cons_zero, List.set_cons_succ]
      refine wpAnyH_done (by kernel_rfl) ?_ _
      have hEnd := hH4
      clear hH4
      have HB5 := Lib.hid hEnd.2
      have HR5 := Lib.hid hR5
      clear hR5 hb5 hg5 hR2 hR3
      go_wp2
      go_roundw
      case rel =>
        refine ⟨k + 1, by omega, by go_num, HB5, Lib.hid ?_⟩
        have e := HR5.out
        rw [HT.out, propBytes]
        refine cast (congrArg (fun z => (Kd.int .u8).R 5 w5 w.heap.size (fun _ => True) v5 z) ?_) e
        simp [List.append_assoc, IntKind.wrap, IntKind.bits, IntKind.signed]
      case measure => simp [intOf]; omega
    · have hlt2 : ¬ (k : Int) < (l.length : Int) := by omega
      go_wp2
      go_ret2
      refine ⟨_, rfl, ?_, HB.out⟩
      have := HR.out
      rwa [List.take_of_length_le (by omega)] at this
end Go.Proofs.Ytonbnlfijmapfaa
