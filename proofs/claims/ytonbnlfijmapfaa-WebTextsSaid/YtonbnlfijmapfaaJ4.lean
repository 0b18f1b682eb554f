/- Texts of this proof, joined: L32, L33, L34. No condition. -/
import Derived.Test.YtonbnlfijmapfaaJ2
import Derived.Test.YtonbnlfijmapfaaJ3
import Derived.Test.YtonbnlfijmapfaaJ1
/- props.Take. -/
namespace Go.Proofs.Ytonbnlfijmapfaa
open Go.RowKit Go.Shelf Go.Proofs.YtonbnlfijmapfaaW.PrintWords
set_option linter.unusedVariables false
set_option linter.unusedSimpArgs false

theorem info_Prp : (Try.prog.info? 117).map (fun i => (i.zero, i.size, i.bytes)) = some (some (.agg #[.string ⟨#[]⟩, .int .i64 0, .int .i64 0, .string ⟨#[]⟩]), 4, 48) := by kernel_rfl
/-- Properties of the call's own, how many bytes, an error. -/
def PropsRet (w : World) (x : List SPrp × Int × Int) (e : Ending) (w' : World) : Prop := ∃ v, e = .returned (.tuple #[v, .int .i64 x.2.1, .int .i64 x.2.2]) ∧ kPrp.R 117 w' w.heap.size (fun _ => True) v x.1 ∧ Below w.heap.size w w'

theorem orderBad_at {out : List SPrp} {j : Nat} {key : ByteArray} (h : out.length = j + 1) : orderBad out key = decide (0 ≤ cmpS (out.getD j zPrp).f0 key) := by
  have e : out.getLast? = some (out.getD j zPrp) := by
    rw [List.getLast?_eq_getElem?, h, List.getD_eq_getElem?_getD, Nat.add_sub_cancel, List.getElem?_eq_getElem (by omega)]
    rfl
  unfold orderBad
  rw [e]
theorem C_empty {α : Type} (d : Kd α) (w : World) (A : Option Addr) : d.C w A 0 [] := ⟨rfl, by simp, fun h => absurd h (Nat.lt_irrefl 0)⟩
theorem C_sub {w : World} {ad : Addr} {b : List Int} (h : (Kd.int .u8).C w (some ad) b.length b) {lo k : Nat} (h2 : lo + 1 + k ≤ b.length) : (Kd.int .u8).C w (some ⟨ad.block, ad.off + (lo + 1), none⟩) k ((b.drop (lo + 1)).take k) := by
  have h3 := Kd.C_mid (lo := lo + 1) (hi := lo + 1 + k) (c := b.length + lo + 2) h (by omega) (by omega) (by omega)
  rw [if_neg (by omega)] at h3
  have e1 : (some ad).map (·.add ((lo + 1) * (Kd.int .u8).sz)) = some ⟨ad.block, ad.off + (lo + 1), none⟩ := by
    show some (ad.add ((lo + 1) * 1)) = _
    rw [Nat.mul_one, add_more]
  rw [e1] at h3
  have e2 : (b.take (lo + 1 + k)).drop (lo + 1) = (b.drop (lo + 1)).take k := by rw [List.drop_take]; congr 1; omega
  rw [e2] at h3
  have e3 : ((b.drop (lo + 1)).take k).length = k := by rw [List.length_take, List.length_drop]; omega
  rw [e3] at h3
  exact h3
theorem take_at {w0 W : World} {ad : Addr} {b : List Int} {c a1 : Nat} {v0 v1 m e : Int} {v2 : ByteArray} (h : (Kd.int .u8).C w0 (some ad) b.length b) (hb : Below w0.heap.size w0 W) (hby : ∀ x ∈ b, 0 ≤ x ∧ x < 256) (h1 : a1 ≤ b.length) (hle : b.length ≤ c) (hne : ¬ c = a1) (hr : takeV (b.drop a1) = (⟨v0, v1, v2⟩, m, e)) :
    Calls Try.prog 127 #[.slice (some (ad.add a1)) (b.length - a1) (c - a1)] W fun e' w' => e' = .returned (.tuple #[.agg #[.int .i64 v0, .int .i64 v1, .string v2], .int .i64 m, .int .i64 e]) ∧ Below W.heap.size W w' := by
  have h3 := Kd.C_drop (m := a1) (c := c) (Kd.C_below h hb) h1 hle
  rw [if_neg hne] at h3
  have e1 : (some ad).map (·.add (a1 * (Kd.int .u8).sz)) = some (ad.add a1) := by
    show some (ad.add (a1 * 1)) = _
    rw [Nat.mul_one]
  rw [e1] at h3
  have h4 := value_Take_calls _ (c - a1) _ W h3 (by rw [List.length_drop]; omega) (fun z hz => hby z (List.mem_of_mem_drop hz))
  rw [hr, List.length_drop] at h4
  exact h4
theorem take_end {W : World} {ad : Addr} {b : List Int} {c a1 : Nat} {v0 v1 m e : Int} {v2 : ByteArray} (h1 : a1 ≤ b.length) (hle : b.length ≤ c) (hne : c = a1) (hr : takeV (b.drop a1) = (⟨v0, v1, v2⟩, m, e)) :
    Calls Try.prog 127 #[.slice (some ad) (b.length - a1) 0] W fun e' w' => e' = .returned (.tuple #[.agg #[.int .i64 v0, .int .i64 v1, .string v2], .int .i64 m, .int .i64 e]) ∧ Below W.heap.size W w' := by
  rw [List.drop_eq_nil_of_le (by omega)] at hr
  have h4 := value_Take_calls (some ad) 0 [] W (C_empty _ _ _) (Nat.le_refl _) (fun z hz => by simp at hz)
  rw [hr] at h4
  rw [show b.length - a1 = 0 by omega]
  exact h4
theorem take_end0 {W : World} {ad : Addr} {b : List Int} {c a1 : Nat} {v0 v1 m e : Int} {v2 : ByteArray} (h1 : a1 ≤ b.length) (hle : b.length ≤ c) (hne : c = a1) (hr : takeV (b.drop a1) = (⟨v0, v1, v2⟩, m, e)) :
    Calls Try.prog 127 #[.slice (some ad) 0 0] W fun e' w' => e' = .returned (.tuple #[.agg #[.int .i64 v0, .int .i64 v1, .string v2], .int .i64 m, .int .i64 e]) ∧ Below W.heap.size W w' := by
  rw [List.drop_eq_nil_of_le (by omega)] at hr
  have h4 := value_Take_calls (some ad) 0 [] W (C_empty _ _ _) (Nat.le_refl _) (fun z hz => by simp at hz)
  rw [hr] at h4
  exact h4
theorem nameRight_empty : nameRight ⟨#[]⟩ = false := by kernel_rfl
theorem keyLen_range {b : List Int} (h : ∀ x ∈ b, 0 ≤ x ∧ x < 256) {a : Nat} (ha : a < b.length) : (b.getD a 0) = (keyLen b a : Int) ∧ keyLen b a < 256 := by
  have := h (b.getD a 0) (by rw [List.getD_eq_getElem?_getD, List.getElem?_eq_getElem ha]; exact List.getElem_mem _)
  unfold keyLen; omega
set_option maxRecDepth 100000 in
set_option maxHeartbeats 20000000 in
theorem props_Take_calls (A : Option Addr) (c : Nat) (b : List Int) (w : World) (h : (Kd.int .u8).C w A b.length b) (hle : b.length ≤ c) (hby : ∀ x ∈ b, 0 ≤ x ∧ x < 256) (hsz : b.length ≤ 1000000) :
    Calls Try.prog 107 #[.slice A b.length c] w (PropsRet w (takeP b)) := by
  have hm := Kd.C_max h
  have HX := Lib.hid h; clear h
  have HBY := Lib.hid hby; clear hby
  cases b with
  | nil =>
    have hl0 : ((([] : List Int).length : Nat) : Int) = 0 := rfl
    go_enter Try.func107, Try.ntmps107
    go_wp2
    refine bodyPost_ret (v := .tuple #[.slice none 0 0, .int .i64 0, .int .i64 20]) (by simp [results, Try.results107, go_sem]) rfl ⟨_, rfl, Kd.R_nil _ _ _ _ _, Below.refl _ _⟩
  | cons x t =>
    have HT : Hid (takeP (x :: t) = if 16 < x then ([], 0, 10) else tpGo (x :: t) x.toNat [] 1) := Lib.hid rfl
    have hxr := HBY.out x List.mem_cons_self
    obtain ⟨ad, rfl, g0⟩ := Kd.at_int HX.out 0 (by omega) (by simp)
    simp only [Int.toNat_zero, add_zero_, rd] at g0
    have hlen : 0 < (x :: t).length := by simp
    have hlen1 : ¬ (((x :: t).length : Nat) : Int) = 0 := by simp; omega
    have hx0 : (x :: t).getD 0 0 = x := rfl
    rw [hx0] at g0; clear hx0
    generalize hbb : x :: t = b at *
    have HBB := Lib.hid hbb; clear hbb
    by_cases h16 : 16 < x
    · have HT2 := Lib.hid (show takeP b = ([], 0, 10) from by rw [HT.out, if_pos h16])
      go_enter Try.func107, Try.ntmps107
      go_wp2
      refine bodyPost_ret (v := .tuple #[.slice none 0 0, .int .i64 0, .int .i64 10]) (by simp [results, Try.results107, go_sem]) rfl ⟨_, by rw [HT2.out], by rw [HT2.out]; exact Kd.R_nil _ _ _ _ _, Below.refl _ _⟩
    · have HT2 := Lib.hid (show takeP b = tpGo b x.toNat [] 1 from by rw [HT.out, if_neg h16])
      obtain ⟨hx0, hx1⟩ := hxr
      go_enter Try.func107, Try.ntmps107
      go_wp2_with fail
      go_loopw [5, 6, 25] (fun v5 v6 v25 wr => ∃ (i a : Nat) (out : List SPrp), (i : Int) ≤ x ∧ out.length = i ∧ 1 ≤ a ∧ a ≤ b.length ∧ v25 = .int .i64 i ∧ v6 = .int .i64 a ∧ Hid (fits out) ∧ Hid (Below w.heap.size w wr) ∧ Hid (kPrp.R 117 wr w.heap.size (fun _ => True) v5 out) ∧ Hid (tpGo b (x.toNat - i) out a = takeP b)) (fun _ _ v25 _ => (x - intOf v25).toNat)
      case atStart => exact ⟨0, 1, [], by omega, rfl, by omega, by omega, rfl, rfl, Lib.hid (fun p hp => by simp at hp), Lib.hid (Below.refl _ _), Lib.hid (Kd.R_nil _ _ _ _ _), Lib.hid (by rw [HT2.out]; rfl)⟩
      case round =>
        obtain ⟨i, a, out, hi, hol, ha1, hab, rfl, rfl, HF, HB, HR, HI⟩ := hrel
        by_cases hlt : (i : Int) < x
        · have HI2 : Hid (tpGo b (x.toNat - (i + 1) + 1) out a = takeP b) := Lib.hid (by rw [show x.toNat - (i + 1) + 1 = x.toNat - i by omega]; exact HI.out)
          by_cases hal : a < b.length
          · have hal2 : ¬ ((a : Int) = (b.length : Int)) := by omega
            obtain ⟨ad2, e2, g1⟩ := Kd.at_int (Kd.C_below HX.out HB.out) (a : Int) (by omega) (by omega)
            cases e2
            simp only [Int.toNat_natCast, rd] at g1
            obtain ⟨hk1, hk2⟩ := keyLen_range HBY.out hal
            rw [hk1] at g1
            have HK1 := Lib.hid hk1; clear hk1
            obtain ⟨k, hkk⟩ : ∃ k, keyLen b a = k := ⟨_, rfl⟩
            rw [hkk] at g1 hk2
            by_cases hfit : a + 1 + k ≤ b.length
            · have hfit2 : ¬ ((b.length : Int) - (a : Int) - 1 < (k : Int)) := by omega
              have HK := Lib.hid hkk; clear hkk
              by_cases hcap : c = a + 1
              · obtain rfl : k = 0 := by omega
                subst hcap
                have hfit3 : ¬ ((b.length : Int) - (a : Int) - 1 < 0) := by omega
                clear hfit2
                rw [show (((0 : Nat) : Int)) = 0 from rfl] at g1
                have HKE := Lib.hid (show keyAt b a = ⟨#[]⟩ from by rw [keyAt, HK.out]; rfl)
                have q1 : (convert 46 9 (.slice (some ad) 0 0)).run Try.prog wr = .ok (.string (strOfNums [])) wr := Kd.C_string Try.underlying46 Try.underlying5 Try.underlying9 (C_empty (Kd.int .u8) wr (some ad))
                have q2 : strOfNums [] = ⟨#[]⟩ := rfl
                rw [q2] at q1; clear q2
                have HN : Hid (tpGo b (x.toNat - (i + 1) + 1) out a = ([], 0, 30)) := Lib.hid (tpGo_name (by rw [HK.out]; omega) (.inl (by rw [HKE.out]; exact nameRight_empty)))
                go_wp2_with (go_at_call 85; refine (letter_Right_one _ 1 ⟨#[]⟩ _ ?hC (by decide) false nameRight_empty).mono ?_; (case hC => exact C_boxg Kd.string (by decide) _ _ (by simp) ⟨#[]⟩ #[.string ⟨#[]⟩] _ rfl); rintro e w2 ⟨rfl, hb2⟩)
                refine bodyPost_ret (v := .tuple #[.slice none 0 0, .int .i64 0, .int .i64 30]) (by simp [results, Try.results107, go_sem]) rfl ⟨_, by rw [← HI2.out, HN.out], by rw [← HI2.out, HN.out]; exact Kd.R_nil _ _ _ _ _, keepB0 hb2 (keepB0 (below_al _ _) HB.out)⟩
              · have HKA : Hid (keyAt b a = strOfNums ((b.drop (a + 1)).take k)) := Lib.hid (by rw [keyAt, HK.out])
                have hCk := C_sub (Kd.C_below HX.out HB.out) hfit
                have q1 : ∀ cc, (convert 46 9 (.slice (some ⟨ad.block, ad.off + (a + 1), none⟩) k cc)).run Try.prog wr = .ok (.string (strOfNums ((b.drop (a + 1)).take k))) wr := fun cc => Kd.C_string Try.underlying46 Try.underlying5 Try.underlying9 hCk
                rw [← HKA.out] at q1
                have hks : (keyAt b a).size = k := by rw [HKA.out, strOfNums_size, List.length_take, List.length_drop]; omega
                clear hCk HKA
                generalize hkey : keyAt b a = key at q1 hks
                have HKY := Lib.hid hkey; clear hkey
                subst hks
                cases hN : nameRight key with
                | false =>
                  have HE : Hid (tpGo b (x.toNat - (i + 1) + 1) out a = ([], 0, 30)) := Lib.hid (tpGo_name (by rw [HK.out]; omega) (.inl (by rw [HKY.out]; exact hN)))
                  go_wp2_with (go_at_call 85; refine (letter_Right_one _ 1 key _ ?hC2 (by omega) false hN).mono ?_; (case hC2 => exact C_boxg Kd.string (by decide) _ _ (by simp) key #[.string key] _ rfl); rintro e w2 ⟨rfl, hb2⟩)
                  refine bodyPost_ret (v := .tuple #[.slice none 0 0, .int .i64 0, .int .i64 30]) (by simp [results, Try.results107, go_sem]) rfl ⟨_, by rw [← HI2.out, HE.out], by rw [← HI2.out, HE.out]; exact Kd.R_nil _ _ _ _ _, keepB0 hb2 (keepB0 (below_al _ _) HB.out)⟩
                | true =>
                  obtain ⟨A5, c5, rfl, hle5, hC5⟩ := Kd.R_reads HR.out
                  have HC5 := Lib.hid hC5; clear hC5
                  have HFK : Hid (fits (out ++ [⟨key, ⟨0, 0, ⟨#[]⟩⟩⟩])) := Lib.hid (fun p hp => by
                    rcases List.mem_append.1 hp with h | h
                    · exact HF.out p h
                    · simp only [List.mem_singleton] at h; subst h; show key.size ≤ 100000; omega)
                  obtain ⟨⟨⟨v0, v1, v2⟩, m, e⟩, hr⟩ : ∃ r, takeV (b.drop (a + 1 + key.size)) = r := ⟨_, rfl⟩
                  have HVV := Lib.hid hr; clear hr
                  have HBr := Lib.hid (Below.refl wr.heap.size wr)
                  have HOL := Lib.hid hol; clear hol
                  have HB0 := Lib.hid HBY.out
                  by_cases hcap2 : c = a + (1 + key.size)
                  · have HV := Lib.hid (fun W => take_end (W := W) (ad := ad) (b := b) (c := c) (a1 := a + (1 + key.size)) (by omega) hle hcap2 (show takeV (b.drop (a + (1 + key.size))) = (⟨v0, v1, v2⟩, m, e) from by rw [show a + (1 + key.size) = a + 1 + key.size by omega]; exact HVV.out))
                    have HV0 := Lib.hid (fun W => take_end0 (W := W) (ad := ad) (b := b) (c := c) (a1 := a + (1 + key.size)) (by omega) hle hcap2 (show takeV (b.drop (a + (1 + key.size))) = (⟨v0, v1, v2⟩, m, e) from by rw [show a + (1 + key.size) = a + 1 + key.size by omega]; exact HVV.out))
                    have he : ¬ e = 0 := by
                      intro h
                      have h2 := HVV.out
                      rw [List.drop_eq_nil_of_le (by omega)] at h2
                      simp only [takeV, Prod.mk.injEq] at h2
                      omega
                    subst hcap2
                    have hks0 : ¬ key.size = 0 := by omega
                    have hks1 : 0 < key.size := by omega
                    cases i with
                    | zero =>
                      have HE : Hid (tpGo b (x.toNat - (0 + 1) + 1) out a = ([], 0, e)) := Lib.hid (tpGo_bad (by rw [HK.out]; omega) (by rw [HKY.out, hN]; obtain rfl : out = [] := List.eq_nil_of_length_eq_zero HOL.out; simp [orderBad]) (by rw [HK.out]; exact HVV.out) he)
                      go_wp2_with (first
                        | (go_at_call 85; refine (letter_Right_one _ 1 key _ (C_boxg Kd.string (by decide) _ _ (by simp) key #[.string key] _ rfl) (by omega) true hN).mono ?_; rintro e' w2 ⟨rfl, hb2⟩; replace HB := Lib.hid (keepB0 hb2 (keepB0 (below_al _ _) HB.out)); replace HBr := Lib.hid (keepB0 hb2 (keepB0 (below_al _ _) HBr.out)); replace HR := Lib.hid (Kd.R_below (Kd.R_alloc HR.out (.cells #[.string key] 9)) hb2); (try (replace f0 := pw_cell_below hb2 (pw_cell_below (below_al _ _) f0); replace f1 := pw_cell_below hb2 (pw_cell_below (below_al _ _) f1); replace f2 := pw_cell_below hb2 (pw_cell_below (below_al _ _) f2); replace f3 := pw_cell_below hb2 (pw_cell_below (below_al _ _) f3))); clear hb2)
                        | (go_at_call 127; (first | (with_reducible refine (HV.out _).mono ?_) | (with_reducible refine (HV0.out _).mono ?_)); rintro e' w4 ⟨rfl, hb4⟩; replace HB := Lib.hid (keepB0 hb4 HB.out); replace HR := Lib.hid (Kd.R_below HR.out hb4); clear hb4))
                      refine bodyPost_ret (v := .tuple #[.slice none 0 0, .int .i64 0, .int .i64 e]) (by simp [results, Try.results107, go_sem]) rfl ⟨_, by rw [← HI2.out, HE.out], by rw [← HI2.out, HE.out]; exact Kd.R_nil _ _ _ _ _, by first | exact HB.out | exact keepB0 (below_al _ _) HB.out⟩
                    | succ j =>
                      have hjo : (j : Int) < (out.length : Int) := by rw [HOL.out]; omega
                      have hjo2 : j < out.length := by omega
                      obtain ⟨ad5, e5, f0, f1, f2, f3⟩ := at_Prp HC5.out (j : Int) (by omega) (by rw [HOL.out]; omega)
                      subst e5
                      simp only [Int.toNat_natCast, rd_Prp] at f0 f1 f2 f3
                      have hpm := HF.out (out.getD j zPrp) (by rw [List.getD_eq_getElem?_getD, List.getElem?_eq_getElem (by rw [HOL.out]; omega)]; exact List.getElem_mem _)
                      have HLast := Lib.hid (orderBad_at (out := out) (j := j) (key := key) HOL.out)
                      obtain ⟨⟨p0, ⟨p1, p2, p3⟩⟩, hq⟩ : ∃ q, out.getD j zPrp = q := ⟨_, rfl⟩
                      rw [hq] at f0 f1 f2 f3 HLast hpm
                      clear hq
                      simp only at f0 f1 f2 f3 hpm
                      cases hO : decide (0 ≤ cmpS p0 key) with
                      | true =>
                        have HE : Hid (tpGo b (x.toNat - (j + 1 + 1) + 1) out a = ([], 0, 30)) := Lib.hid (tpGo_name (by rw [HK.out]; omega) (.inr (by rw [HKY.out, HLast.out, hO])))
                        go_wp2_with (first
                          | (go_at_call 85; refine (letter_Right_one _ 1 key _ (C_boxg Kd.string (by decide) _ _ (by simp) key #[.string key] _ rfl) (by omega) true hN).mono ?_; rintro e' w2 ⟨rfl, hb2⟩; replace HB := Lib.hid (keepB0 hb2 (keepB0 (below_al _ _) HB.out)); replace HBr := Lib.hid (keepB0 hb2 (keepB0 (below_al _ _) HBr.out)); replace HR := Lib.hid (Kd.R_below (Kd.R_alloc HR.out (.cells #[.string key] 9)) hb2); (try (replace f0 := pw_cell_below hb2 (pw_cell_below (below_al _ _) f0); replace f1 := pw_cell_below hb2 (pw_cell_below (below_al _ _) f1); replace f2 := pw_cell_below hb2 (pw_cell_below (below_al _ _) f2); replace f3 := pw_cell_below hb2 (pw_cell_below (below_al _ _) f3))); clear hb2)
                          | (go_at_call 117; refine (props_by_calls p0 p1 p2 p3 key _ (by omega) (by omega)).mono ?_; rintro e' w3 ⟨rfl, hb3⟩; replace HB := Lib.hid (keepB0 hb3 HB.out); replace HBr := Lib.hid (keepB0 hb3 HBr.out); replace HR := Lib.hid (Kd.R_below HR.out hb3); clear hb3))
                        refine bodyPost_ret (v := .tuple #[.slice none 0 0, .int .i64 0, .int .i64 30]) (by simp [results, Try.results107, go_sem]) rfl ⟨_, by rw [← HI2.out, HE.out], by rw [← HI2.out, HE.out]; exact Kd.R_nil _ _ _ _ _, HB.out⟩
                      | false =>
                        have HE : Hid (tpGo b (x.toNat - (j + 1 + 1) + 1) out a = ([], 0, e)) := Lib.hid (tpGo_bad (by rw [HK.out]; omega) (by rw [HKY.out, hN, HLast.out, hO]; simp) (by rw [HK.out]; exact HVV.out) he)
                        go_wp2_with (first
                          | (go_at_call 85; refine (letter_Right_one _ 1 key _ (C_boxg Kd.string (by decide) _ _ (by simp) key #[.string key] _ rfl) (by omega) true hN).mono ?_; rintro e' w2 ⟨rfl, hb2⟩; replace HB := Lib.hid (keepB0 hb2 (keepB0 (below_al _ _) HB.out)); replace HBr := Lib.hid (keepB0 hb2 (keepB0 (below_al _ _) HBr.out)); replace HR := Lib.hid (Kd.R_below (Kd.R_alloc HR.out (.cells #[.string key] 9)) hb2); (try (replace f0 := pw_cell_below hb2 (pw_cell_below (below_al _ _) f0); replace f1 := pw_cell_below hb2 (pw_cell_below (below_al _ _) f1); replace f2 := pw_cell_below hb2 (pw_cell_below (below_al _ _) f2); replace f3 := pw_cell_below hb2 (pw_cell_below (below_al _ _) f3))); clear hb2)
                          | (go_at_call 117; refine (props_by_calls p0 p1 p2 p3 key _ (by omega) (by omega)).mono ?_; rintro e' w3 ⟨rfl, hb3⟩; replace HB := Lib.hid (keepB0 hb3 HB.out); replace HBr := Lib.hid (keepB0 hb3 HBr.out); replace HR := Lib.hid (Kd.R_below HR.out hb3); clear hb3)
                          | (go_at_call 127; (first | (with_reducible refine (HV.out _).mono ?_) | (with_reducible refine (HV0.out _).mono ?_)); rintro e' w4 ⟨rfl, hb4⟩; replace HB := Lib.hid (keepB0 hb4 HB.out); replace HR := Lib.hid (Kd.R_below HR.out hb4); clear hb4))
                        refine bodyPost_ret (v := .tuple #[.slice none 0 0, .int .i64 0, .int .i64 e]) (by simp [results, Try.results107, go_sem]) rfl ⟨_, by rw [← HI2.out, HE.out], by rw [← HI2.out, HE.out]; exact Kd.R_nil _ _ _ _ _, by first | exact HB.out | exact keepB0 (below_al _ _) HB.out⟩
                  · have HV := Lib.hid (fun W hW => take_at (w0 := wr) (W := W) (ad := ad) (b := b) (c := c) (a1 := a + (1 + key.size)) (Kd.C_below HX.out HB.out) hW HBY.out (by omega) hle hcap2 (show takeV (b.drop (a + (1 + key.size))) = (⟨v0, v1, v2⟩, m, e) from by rw [show a + (1 + key.size) = a + 1 + key.size by omega]; exact HVV.out))
                    by_cases he : e = 0
                    · subst he
                      obtain ⟨hm0, hm1, -, -, -⟩ := takeV_ok (fun z hz => HBY.out z (List.mem_of_mem_drop hz)) HVV.out
                      rw [List.length_drop] at hm1
                      obtain ⟨m', rfl⟩ : ∃ m' : Nat, m = m' := ⟨m.toNat, by omega⟩
                      have hm2 : a + 1 + key.size + m' ≤ b.length := by omega
                      have hol2 : out.length ≤ 16 := by rw [HOL.out]; omega
                      have HFF : Hid (fits (out ++ [⟨key, ⟨v0, v1, v2⟩⟩])) := Lib.hid (fun p hp => by
                        rcases List.mem_append.1 hp with h | h
                        · exact HF.out p h
                        · simp only [List.mem_singleton] at h; subst h; show key.size ≤ 100000; omega)
                      cases i with
                      | zero =>
                        have HE : Hid (tpGo b (x.toNat - (0 + 1)) (out ++ [⟨key, ⟨v0, v1, v2⟩⟩]) (a + 1 + key.size + m') = takeP b) := Lib.hid (by
                          rw [← HI2.out, tpGo_step (by rw [HK.out]; omega) (by rw [HKY.out, hN]; obtain rfl : out = [] := List.eq_nil_of_length_eq_zero HOL.out; simp [orderBad]) (by rw [HK.out]; exact HVV.out), HKY.out, HK.out]; rfl)
                        go_wp2_with (first
                          | (go_at_call 85; refine (letter_Right_one _ 1 key _ (C_boxg Kd.string (by decide) _ _ (by simp) key #[.string key] _ rfl) (by omega) true hN).mono ?_; rintro e' w2 ⟨rfl, hb2⟩; replace HB := Lib.hid (keepB0 hb2 (keepB0 (below_al _ _) HB.out)); replace HBr := Lib.hid (keepB0 hb2 (keepB0 (below_al _ _) HBr.out)); replace HR := Lib.hid (Kd.R_below (Kd.R_alloc HR.out (.cells #[.string key] 9)) hb2); (try (replace f0 := pw_cell_below hb2 (pw_cell_below (below_al _ _) f0); replace f1 := pw_cell_below hb2 (pw_cell_below (below_al _ _) f1); replace f2 := pw_cell_below hb2 (pw_cell_below (below_al _ _) f2); replace f3 := pw_cell_below hb2 (pw_cell_below (below_al _ _) f3))); clear hb2)
                          | (go_at_call 127; (with_reducible refine (HV.out _ HBr.out).mono ?_); rintro e' w4 ⟨rfl, hb4⟩; replace HB := Lib.hid (keepB0 hb4 HB.out); replace HR := Lib.hid (Kd.R_below HR.out hb4); clear hb4)
                          | (at_builtin; (refine app_one (Kd.R_alloc HR.out (.cells #[.int .i64 v0, .int .i64 v1, .string v2] 42)) info_Prp Try.underlying22 (kPrp_mkM _ _ _ (⟨key, ⟨v0, v1, v2⟩⟩ : SPrp)) (fun _ _ => trivial) (by have := HB.out.size; simp; omega) (by omega) rfl (by decide) (by decide) rfl rfl rfl (by show Value.slice (some ⟨w4.heap.size + 1, 0, none⟩) 1 1 = _; simp [World.size_alloc]) ?_); intro vn w7 hR7 hb7 hg7 hat7; have HR2 := Lib.hid hR7; replace HB := Lib.hid ((keepB0 (below_al _ _) HB.out).trans hb7); clear hR7 hb7 hg7))
                        go_roundw
                        case rel => exact ⟨0 + 1, a + 1 + key.size + m', _, by omega, by rw [List.length_append, HOL.out]; rfl, by omega, by omega, by go_num, by go_num, HFF, HB, HR2, HE⟩
                        case measure => simp [intOf]; omega
                      | succ j =>
                        have hjo : (j : Int) < (out.length : Int) := by rw [HOL.out]; omega
                        have hjo2 : j < out.length := by omega
                        obtain ⟨ad5, e5, f0, f1, f2, f3⟩ := at_Prp HC5.out (j : Int) (by omega) (by rw [HOL.out]; omega)
                        subst e5
                        simp only [Int.toNat_natCast, rd_Prp] at f0 f1 f2 f3
                        have hpm := HF.out (out.getD j zPrp) (by rw [List.getD_eq_getElem?_getD, List.getElem?_eq_getElem (by rw [HOL.out]; omega)]; exact List.getElem_mem _)
                        have HLast := Lib.hid (orderBad_at (out := out) (j := j) (key := key) HOL.out)
                        obtain ⟨⟨p0, ⟨p1, p2, p3⟩⟩, hq⟩ : ∃ q, out.getD j zPrp = q := ⟨_, rfl⟩
                        rw [hq] at f0 f1 f2 f3 HLast hpm
                        clear hq
                        simp only at f0 f1 f2 f3 hpm
                        cases hO : decide (0 ≤ cmpS p0 key) with
                        | true =>
                          have HE : Hid (tpGo b (x.toNat - (j + 1 + 1) + 1) out a = ([], 0, 30)) := Lib.hid (tpGo_name (by rw [HK.out]; omega) (.inr (by rw [HKY.out, HLast.out, hO])))
                          go_wp2_with (first
                            | (go_at_call 85; refine (letter_Right_one _ 1 key _ (C_boxg Kd.string (by decide) _ _ (by simp) key #[.string key] _ rfl) (by omega) true hN).mono ?_; rintro e' w2 ⟨rfl, hb2⟩; replace HB := Lib.hid (keepB0 hb2 (keepB0 (below_al _ _) HB.out)); replace HBr := Lib.hid (keepB0 hb2 (keepB0 (below_al _ _) HBr.out)); replace HR := Lib.hid (Kd.R_below (Kd.R_alloc HR.out (.cells #[.string key] 9)) hb2); (try (replace f0 := pw_cell_below hb2 (pw_cell_below (below_al _ _) f0); replace f1 := pw_cell_below hb2 (pw_cell_below (below_al _ _) f1); replace f2 := pw_cell_below hb2 (pw_cell_below (below_al _ _) f2); replace f3 := pw_cell_below hb2 (pw_cell_below (below_al _ _) f3))); clear hb2)
                            | (go_at_call 117; refine (props_by_calls p0 p1 p2 p3 key _ (by omega) (by omega)).mono ?_; rintro e' w3 ⟨rfl, hb3⟩; replace HB := Lib.hid (keepB0 hb3 HB.out); replace HBr := Lib.hid (keepB0 hb3 HBr.out); replace HR := Lib.hid (Kd.R_below HR.out hb3); clear hb3))
                          refine bodyPost_ret (v := .tuple #[.slice none 0 0, .int .i64 0, .int .i64 30]) (by simp [results, Try.results107, go_sem]) rfl ⟨_, by rw [← HI2.out, HE.out], by rw [← HI2.out, HE.out]; exact Kd.R_nil _ _ _ _ _, HB.out⟩
                        | false =>
                          have HE : Hid (tpGo b (x.toNat - (j + 1 + 1)) (out ++ [⟨key, ⟨v0, v1, v2⟩⟩]) (a + 1 + key.size + m') = takeP b) := Lib.hid (by
                            rw [← HI2.out, tpGo_step (by rw [HK.out]; omega) (by rw [HKY.out, hN, HLast.out, hO]; simp) (by rw [HK.out]; exact HVV.out), HKY.out, HK.out]; rfl)
                          go_wp2_with (first
                            | (go_at_call 85; refine (letter_Right_one _ 1 key _ (C_boxg Kd.string (by decide) _ _ (by simp) key #[.string key] _ rfl) (by omega) true hN).mono ?_; rintro e' w2 ⟨rfl, hb2⟩; replace HB := Lib.hid (keepB0 hb2 (keepB0 (below_al _ _) HB.out)); replace HBr := Lib.hid (keepB0 hb2 (keepB0 (below_al _ _) HBr.out)); replace HR := Lib.hid (Kd.R_below (Kd.R_alloc HR.out (.cells #[.string key] 9)) hb2); (try (replace f0 := pw_cell_below hb2 (pw_cell_below (below_al _ _) f0); replace f1 := pw_cell_below hb2 (pw_cell_below (below_al _ _) f1); replace f2 := pw_cell_below hb2 (pw_cell_below (below_al _ _) f2); replace f3 := pw_cell_below hb2 (pw_cell_below (below_al _ _) f3))); clear hb2)
                            | (go_at_call 117; refine (props_by_calls p0 p1 p2 p3 key _ (by omega) (by omega)).mono ?_; rintro e' w3 ⟨rfl, hb3⟩; replace HB := Lib.hid (keepB0 hb3 HB.out); replace HBr := Lib.hid (keepB0 hb3 HBr.out); replace HR := Lib.hid (Kd.R_below HR.out hb3); clear hb3)
                            | (go_at_call 127; (with_reducible refine (HV.out _ HBr.out).mono ?_); rintro e' w4 ⟨rfl, hb4⟩; replace HB := Lib.hid (keepB0 hb4 HB.out); replace HR := Lib.hid (Kd.R_below HR.out hb4); clear hb4)
                            | (at_builtin; (refine app_one (Kd.R_alloc HR.out (.cells #[.int .i64 v0, .int .i64 v1, .string v2] 42)) info_Prp Try.underlying22 (kPrp_mkM _ _ _ (⟨key, ⟨v0, v1, v2⟩⟩ : SPrp)) (fun _ _ => trivial) (by have := HB.out.size; simp; omega) (by omega) rfl (by decide) (by decide) rfl rfl rfl (by show Value.slice (some ⟨w4.heap.size + 1, 0, none⟩) 1 1 = _; simp [World.size_alloc]) ?_); intro vn w7 hR7 hb7 hg7 hat7; have HR2 := Lib.hid hR7; replace HB := Lib.hid ((keepB0 (below_al _ _) HB.out).trans hb7); clear hR7 hb7 hg7))
                          go_roundw
                          case rel => exact ⟨j + 1 + 1, a + 1 + key.size + m', _, by omega, by rw [List.length_append, HOL.out]; rfl, by omega, by omega, by go_num, by go_num, HFF, HB, HR2, HE⟩
                          case measure => simp [intOf]; omega
                    · cases i with
                      | zero =>
                        have HE : Hid (tpGo b (x.toNat - (0 + 1) + 1) out a = ([], 0, e)) := Lib.hid (tpGo_bad (by rw [HK.out]; omega) (by rw [HKY.out, hN]; obtain rfl : out = [] := List.eq_nil_of_length_eq_zero HOL.out; simp [orderBad]) (by rw [HK.out]; exact HVV.out) he)
                        go_wp2_with (first
                          | (go_at_call 85; refine (letter_Right_one _ 1 key _ (C_boxg Kd.string (by decide) _ _ (by simp) key #[.string key] _ rfl) (by omega) true hN).mono ?_; rintro e' w2 ⟨rfl, hb2⟩; replace HB := Lib.hid (keepB0 hb2 (keepB0 (below_al _ _) HB.out)); replace HBr := Lib.hid (keepB0 hb2 (keepB0 (below_al _ _) HBr.out)); replace HR := Lib.hid (Kd.R_below (Kd.R_alloc HR.out (.cells #[.string key] 9)) hb2); (try (replace f0 := pw_cell_below hb2 (pw_cell_below (below_al _ _) f0); replace f1 := pw_cell_below hb2 (pw_cell_below (below_al _ _) f1); replace f2 := pw_cell_below hb2 (pw_cell_below (below_al _ _) f2); replace f3 := pw_cell_below hb2 (pw_cell_below (below_al _ _) f3))); clear hb2)
                          | (go_at_call 127; (with_reducible refine (HV.out _ HBr.out).mono ?_); rintro e' w4 ⟨rfl, hb4⟩; replace HB := Lib.hid (keepB0 hb4 HB.out); replace HR := Lib.hid (Kd.R_below HR.out hb4); clear hb4))
                        refine bodyPost_ret (v := .tuple #[.slice none 0 0, .int .i64 0, .int .i64 e]) (by simp [results, Try.results107, go_sem]) rfl ⟨_, by rw [← HI2.out, HE.out], by rw [← HI2.out, HE.out]; exact Kd.R_nil _ _ _ _ _, by first | exact HB.out | exact keepB0 (below_al _ _) HB.out⟩
                      | succ j =>
                        have hjo : (j : Int) < (out.length : Int) := by rw [HOL.out]; omega
                        have hjo2 : j < out.length := by omega
                        obtain ⟨ad5, e5, f0, f1, f2, f3⟩ := at_Prp HC5.out (j : Int) (by omega) (by rw [HOL.out]; omega)
                        subst e5
                        simp only [Int.toNat_natCast, rd_Prp] at f0 f1 f2 f3
                        have hpm := HF.out (out.getD j zPrp) (by rw [List.getD_eq_getElem?_getD, List.getElem?_eq_getElem (by rw [HOL.out]; omega)]; exact List.getElem_mem _)
                        have HLast := Lib.hid (orderBad_at (out := out) (j := j) (key := key) HOL.out)
                        obtain ⟨⟨p0, ⟨p1, p2, p3⟩⟩, hq⟩ : ∃ q, out.getD j zPrp = q := ⟨_, rfl⟩
                        rw [hq] at f0 f1 f2 f3 HLast hpm
                        clear hq
                        simp only at f0 f1 f2 f3 hpm
                        cases hO : decide (0 ≤ cmpS p0 key) with
                        | true =>
                          have HE : Hid (tpGo b (x.toNat - (j + 1 + 1) + 1) out a = ([], 0, 30)) := Lib.hid (tpGo_name (by rw [HK.out]; omega) (.inr (by rw [HKY.out, HLast.out, hO])))
                          go_wp2_with (first
                            | (go_at_call 85; refine (letter_Right_one _ 1 key _ (C_boxg Kd.string (by decide) _ _ (by simp) key #[.string key] _ rfl) (by omega) true hN).mono ?_; rintro e' w2 ⟨rfl, hb2⟩; replace HB := Lib.hid (keepB0 hb2 (keepB0 (below_al _ _) HB.out)); replace HBr := Lib.hid (keepB0 hb2 (keepB0 (below_al _ _) HBr.out)); replace HR := Lib.hid (Kd.R_below (Kd.R_alloc HR.out (.cells #[.string key] 9)) hb2); (try (replace f0 := pw_cell_below hb2 (pw_cell_below (below_al _ _) f0); replace f1 := pw_cell_below hb2 (pw_cell_below (below_al _ _) f1); replace f2 := pw_cell_below hb2 (pw_cell_below (below_al _ _) f2); replace f3 := pw_cell_below hb2 (pw_cell_below (below_al _ _) f3))); clear hb2)
                            | (go_at_call 117; refine (props_by_calls p0 p1 p2 p3 key _ (by omega) (by omega)).mono ?_; rintro e' w3 ⟨rfl, hb3⟩; replace HB := Lib.hid (keepB0 hb3 HB.out); replace HBr := Lib.hid (keepB0 hb3 HBr.out); replace HR := Lib.hid (Kd.R_below HR.out hb3); clear hb3))
                          refine bodyPost_ret (v := .tuple #[.slice none 0 0, .int .i64 0, .int .i64 30]) (by simp [results, Try.results107, go_sem]) rfl ⟨_, by rw [← HI2.out, HE.out], by rw [← HI2.out, HE.out]; exact Kd.R_nil _ _ _ _ _, HB.out⟩
                        | false =>
                          have HE : Hid (tpGo b (x.toNat - (j + 1 + 1) + 1) out a = ([], 0, e)) := Lib.hid (tpGo_bad (by rw [HK.out]; omega) (by rw [HKY.out, hN, HLast.out, hO]; simp) (by rw [HK.out]; exact HVV.out) he)
                          go_wp2_with (first
                            | (go_at_call 85; refine (letter_Right_one _ 1 key _ (C_boxg Kd.string (by decide) _ _ (by simp) key #[.string key] _ rfl) (by omega) true hN).mono ?_; rintro e' w2 ⟨rfl, hb2⟩; replace HB := Lib.hid (keepB0 hb2 (keepB0 (below_al _ _) HB.out)); replace HBr := Lib.hid (keepB0 hb2 (keepB0 (below_al _ _) HBr.out)); replace HR := Lib.hid (Kd.R_below (Kd.R_alloc HR.out (.cells #[.string key] 9)) hb2); (try (replace f0 := pw_cell_below hb2 (pw_cell_below (below_al _ _) f0); replace f1 := pw_cell_below hb2 (pw_cell_below (below_al _ _) f1); replace f2 := pw_cell_below hb2 (pw_cell_below (below_al _ _) f2); replace f3 := pw_cell_below hb2 (pw_cell_below (below_al _ _) f3))); clear hb2)
                            | (go_at_call 117; refine (props_by_calls p0 p1 p2 p3 key _ (by omega) (by omega)).mono ?_; rintro e' w3 ⟨rfl, hb3⟩; replace HB := Lib.hid (keepB0 hb3 HB.out); replace HBr := Lib.hid (keepB0 hb3 HBr.out); replace HR := Lib.hid (Kd.R_below HR.out hb3); clear hb3)
                            | (go_at_call 127; (with_reducible refine (HV.out _ HBr.out).mono ?_); rintro e' w4 ⟨rfl, hb4⟩; replace HB := Lib.hid (keepB0 hb4 HB.out); replace HR := Lib.hid (Kd.R_below HR.out hb4); clear hb4))
                          refine bodyPost_ret (v := .tuple #[.slice none 0 0, .int .i64 0, .int .i64 e]) (by simp [results, Try.results107, go_sem]) rfl ⟨_, by rw [← HI2.out, HE.out], by rw [← HI2.out, HE.out]; exact Kd.R_nil _ _ _ _ _, by first | exact HB.out | exact keepB0 (below_al _ _) HB.out⟩
            · have hfit2 : ((b.length : Int) - (a : Int) - 1 < (k : Int)) := by omega
              have HK := Lib.hid hkk; clear hkk
              go_wp2
              refine bodyPost_ret (v := .tuple #[.slice none 0 0, .int .i64 0, .int .i64 20]) (by simp [results, Try.results107, go_sem]) rfl ⟨_, by rw [← HI2.out, tpGo_short (.inl (by rw [HK.out]; omega))], by rw [← HI2.out, tpGo_short (.inl (by rw [HK.out]; omega))]; exact Kd.R_nil _ _ _ _ _, HB.out⟩
          · have hal2 : ((a : Int) = (b.length : Int)) := by omega
            go_wp2
            refine bodyPost_ret (v := .tuple #[.slice none 0 0, .int .i64 0, .int .i64 20]) (by simp [results, Try.results107, go_sem]) rfl ⟨_, by rw [← HI2.out, tpGo_short (.inr (by omega))], by rw [← HI2.out, tpGo_short (.inr (by omega))]; exact Kd.R_nil _ _ _ _ _, HB.out⟩
        · obtain rfl : x = (i : Int) := by omega
          have HI2 : Hid (takeP b = (out, (a : Int), 0)) := Lib.hid (by rw [← HI.out, show (i : Int).toNat - i = 0 by omega, tpGo])
          go_wp2
          refine bodyPost_ret (by simp [results, Try.results107, go_sem]; rfl) rfl ⟨_, by rw [HI2.out], by rw [HI2.out]; exact HR.out, HB.out⟩
end Go.Proofs.Ytonbnlfijmapfaa
/- cobwebref01.Compare. -/
namespace Go.Proofs.Ytonbnlfijmapfaa
open Go.RowKit Go.Shelf Go.Proofs.YtonbnlfijmapfaaW.PrintWords
set_option linter.unusedVariables false
set_option linter.unusedSimpArgs false

set_option maxRecDepth 100000 in
set_option maxHeartbeats 4000000 in
theorem ref01_Compare_calls (a b : ByteArray) (w : World) (ha : a.size ≤ 100000) (hb : b.size ≤ 100000) :
    Calls Try.prog 106 #[.string a, .string b] w fun e w' => e = .returned (.int .i64 (cmpS a b)) ∧ Below w.heap.size w w' := by
  have p1 : True := trivial
  go_enter Try.func106, Try.ntmps106
  go_wp2_with (first
    | (go_at_call 102; clear p1; refine (ref01_Runes_calls a _ ha).mono ?_; rintro e w1 ⟨⟨v1, rfl, hR1⟩, hb1⟩; have HR1 := Lib.hid hR1; have HB := Lib.hid hb1; clear hR1 hb1)
    | (go_at_call 102; refine (ref01_Runes_calls b _ hb).mono ?_; rintro e w2 ⟨⟨v2, rfl, hR2⟩, hb2⟩; have HR2 := Lib.hid hR2; replace HR1 := Lib.hid (Kd.R_below HR1.out hb2); replace HB := Lib.hid (keepB0 hb2 HB.out); clear hR2 hb2))
  obtain ⟨A1, c1, rfl, -, hC1⟩ := Kd.R_reads HR1.out
  obtain ⟨A2, c2, rfl, -, hC2⟩ := Kd.R_reads HR2.out
  have HC1 := Lib.hid hC1
  have HC2 := Lib.hid hC2
  clear hC1 hC2 HR1 HR2
  have hm1 := Kd.C_max HC1.out
  have hm2 := Kd.C_max HC2.out
  have HG : Hid (cmpS a b = cmpL (runes a) (runes b)) := Lib.hid rfl
  generalize runes a = xs at HC1 HG hm1
  generalize runes b = ys at HC2 HG hm2
  go_loopw [7] (fun v7 wr => ∃ k : Nat, k ≤ xs.length ∧ k ≤ ys.length ∧ v7 = .int .i64 k ∧ Hid (Quiet w2 wr) ∧ Hid (cmpL (xs.drop k) (ys.drop k) = cmpL xs ys)) (fun v7 _ => xs.length - (intOf v7).toNat)
  case atStart => exact ⟨0, Nat.zero_le _, Nat.zero_le _, rfl, Lib.hid (quiet_refl _), Lib.hid rfl⟩
  case round =>
    obtain ⟨k, hk, hk2, rfl, HQ, HI⟩ := hrel
    by_cases hlt : k < xs.length
    · have hlt1 : (k : Int) < (xs.length : Int) := by omega
      obtain ⟨ad, rfl, g0⟩ := Kd.at_int (Kd.C_below HC1.out (quiet_below HQ.out _)) (k : Int) (by omega) (by omega)
      simp only [Int.toNat_natCast] at g0
      by_cases hlt2 : k < ys.length
      · have hlt3 : (k : Int) < (ys.length : Int) := by omega
        obtain ⟨bd, rfl, g1⟩ := Kd.at_int (Kd.C_below HC2.out (quiet_below HQ.out _)) (k : Int) (by omega) (by omega)
        simp only [Int.toNat_natCast] at g1
        have HS := Lib.hid (cmpL_step hlt hlt2)
        generalize rd xs (k : Int) = x at *
        generalize rd ys (k : Int) = y at *
        rcases Int.lt_trichotomy x y with h | h | h
        · have hc : cmpI x y = -1 := by simp [cmpI, h]
          have hd : decide (x < y) = true := decide_eq_true h
          have HH := Lib.hid h; clear h
          go_wp2_with fail
          go_big_quiet (fail)
          go_wp2
          go_ret
          exact ⟨ret_int (by rw [HG.out, ← HI.out, HS.out, hc]; rfl), keepB0 (quiet_below (quiet_step HQ.out _) _) HB.out⟩
        · have hc : cmpI x y = 0 := by simp [cmpI, h]
          subst h
          have HH := Lib.hid hc; clear hc
          go_wp2_with fail
          go_big_quiet (fail)
          go_wp2_with fail
          go_big_quiet (fail)
          go_wp2
          go_roundw
          case rel => exact ⟨k + 1, by omega, by omega, by go_num, Lib.hid (by first | exact quiet_step HQ.out _ | exact quiet_step (quiet_step HQ.out _) _), Lib.hid (by rw [← HI.out, HS.out, HH.out]; rfl)⟩
          case measure => simp [intOf]; omega
        · have hc : cmpI x y = 1 := by have : ¬ x < y := by omega
                                       simp [cmpI, h, this]
          have hd : decide (x < y) = false := decide_eq_false (by omega)
          have hd2 : decide (y < x) = true := decide_eq_true h
          have HH := Lib.hid h; clear h
          go_wp2_with fail
          go_big_quiet (fail)
          go_wp2_with fail
          go_big_quiet (fail)
          go_wp2
          go_ret
          exact ⟨ret_int (by rw [HG.out, ← HI.out, HS.out, hc]; rfl), keepB0 (by first | exact quiet_below (quiet_step HQ.out _) _ | exact quiet_below (quiet_step (quiet_step HQ.out _) _) _) HB.out⟩
      · have hlt3 : ¬ (k : Int) < (ys.length : Int) := by omega
        have HE := Lib.hid (cmpL_end hk hk2 (by omega))
        have h1 : ¬ ((xs.length : Int) < (ys.length : Int)) := by omega
        have h2 : ((ys.length : Int) < (xs.length : Int)) := by omega
        go_wp2
        go_ret
        exact ⟨ret_int (by rw [HG.out, ← HI.out, HE.out]; unfold cmpI; rw [if_neg (by omega), if_pos (by omega)]), keepB0 (quiet_below HQ.out _) HB.out⟩
    · have hlt1 : ¬ (k : Int) < (xs.length : Int) := by omega
      have HE := Lib.hid (cmpL_end hk hk2 (by omega))
      by_cases hlt2 : xs.length < ys.length
      · have h1 : ((xs.length : Int) < (ys.length : Int)) := by omega
        go_wp2
        go_ret
        exact ⟨ret_int (by rw [HG.out, ← HI.out, HE.out]; unfold cmpI; rw [if_pos (by omega)]), keepB0 (quiet_below HQ.out _) HB.out⟩
      · have h1 : ¬ ((xs.length : Int) < (ys.length : Int)) := by omega
        have h2 : ¬ ((ys.length : Int) < (xs.length : Int)) := by omega
        go_wp2
        go_ret
        exact ⟨ret_int (by rw [HG.out, ← HI.out, HE.out]; unfold cmpI; rw [if_neg (by omega), if_neg (by omega)]), keepB0 (quiet_below HQ.out _) HB.out⟩
end Go.Proofs.Ytonbnlfijmapfaa
/- cobwebref03.Right, cobwebref16.Check. -/
namespace Go.Proofs.Ytonbnlfijmapfaa
open Go.RowKit Go.Shelf Go.Proofs.YtonbnlfijmapfaaW.PrintWords
set_option linter.unusedVariables false
set_option linter.unusedSimpArgs false

set_option maxRecDepth 100000 in
set_option maxHeartbeats 4000000 in
theorem ref03_Right_calls (A : Option Addr) (c : Nat) (l : List SPrp) (w : World) (h : kPrp.C w A l.length l) (hf : fits l) :
    Calls Try.prog 75 #[.slice A l.length c] w fun e w' => e = .returned (.bool (propsRight l)) ∧ Below w.heap.size w w' := by
  have hm := Kd.C_max h
  have HX := Lib.hid h; clear h
  have HF := Lib.hid hf; clear hf
  by_cases h16 : l.length ≤ 16
  · have h16' : ¬ (16 : Int) < (l.length : Int) := by omega
    go_enter Try.func75, Try.ntmps75
    go_wp2
    go_loopw [3] (fun s3 wr => ∃ k : Nat, k ≤ l.length ∧ s3 = .int .i64 k ∧ Hid (Below w.heap.size w wr) ∧ Hid (propsFrom (prevAt l k) (l.drop k) = propsFrom none l)) (fun s3 _ => l.length - (intOf s3).toNat)
    case atStart => exact ⟨0, Nat.zero_le _, rfl, Lib.hid (Below.refl _ w), Lib.hid rfl⟩
    case round =>
      obtain ⟨k, hk, rfl, HB, HI⟩ := hrel
      by_cases hlt : k < l.length
      · have hlt2 : (k : Int) < (l.length : Int) := by omega
        have HS := Lib.hid (propsFrom_at l k hlt)
        have hmem : l.getD k zPrp ∈ l := by simp [List.getD_eq_getElem?_getD, List.getElem?_eq_getElem hlt]
        have hs := HF.out _ hmem
        obtain ⟨ad, rfl, g0, g1, g2, g3⟩ := at_Prp (Kd.C_below HX.out HB.out) (k : Int) (by omega) (by omega)
        simp only [Int.toNat_natCast, rd_Prp] at g0 g1 g2 g3
        obtain ⟨⟨y0, ⟨y1, y2, y3⟩⟩, hy⟩ : ∃ q, l.getD k zPrp = q := ⟨_, rfl⟩
        rw [hy] at g0 g1 g2 g3 HS hs
        clear hy hmem
        simp only at g0 g1 g2 g3 hs HS
        cases hN : nameRight y0 with
        | false =>
          have HE := Lib.hid (propsRight_no (by rw [← HI.out, HS.out, hN]; rfl))
          go_wp2_with (go_at_call 67; refine (ref01_Right_calls y0 _ (by omega)).mono ?_; rw [hN]; rintro e w2 ⟨rfl, hb2⟩; replace HB := Lib.hid (keepB0 hb2 HB.out); replace g0 := pw_cell_below hb2 g0; replace g1 := pw_cell_below hb2 g1; replace g2 := pw_cell_below hb2 g2; replace g3 := pw_cell_below hb2 g3; (try replace f0 := pw_cell_below hb2 f0); clear hb2)
          go_ret
          exact ⟨ret_bool HE.out.symm, HB.out⟩
        | true =>
        cases hV : valOk y1 y2 y3 with
        | false =>
          have HE := Lib.hid (propsRight_no (by rw [← HI.out, HS.out, hN, show SValue.ok ⟨y1, y2, y3⟩ = false from hV]; rfl))
          go_wp2_with (first
            | (go_at_call 67; refine (ref01_Right_calls y0 _ (by omega)).mono ?_; rw [hN]; rintro e w2 ⟨rfl, hb2⟩; replace HB := Lib.hid (keepB0 hb2 HB.out); replace g0 := pw_cell_below hb2 g0; replace g1 := pw_cell_below hb2 g1; replace g2 := pw_cell_below hb2 g2; replace g3 := pw_cell_below hb2 g3; (try replace f0 := pw_cell_below hb2 f0); clear hb2)
            | (go_at_call 22; refine (ref02_Right_calls y1 y2 y3 _).mono ?_; rw [hV]; rintro e w3 ⟨rfl, hb2⟩; replace HB := Lib.hid (keepB0 hb2 HB.out); replace g0 := pw_cell_below hb2 g0; (try replace f0 := pw_cell_below hb2 f0); clear hb2))
          go_ret
          exact ⟨ret_bool HE.out.symm, HB.out⟩
        | true =>
        have hV' : SValue.ok ⟨y1, y2, y3⟩ = true := hV
        cases k with
        | zero =>
          have HE := Lib.hid (HS.out.symm.trans HI.out)
          rw [hN, hV'] at HE
          simp only [Nat.zero_mul, add_zero_] at g0 g1 g2 g3
          go_wp2_with (first
            | (go_at_call 67; refine (ref01_Right_calls y0 _ (by omega)).mono ?_; rw [hN]; rintro e w2 ⟨rfl, hb2⟩; replace HB := Lib.hid (keepB0 hb2 HB.out); replace g0 := pw_cell_below hb2 g0; replace g1 := pw_cell_below hb2 g1; replace g2 := pw_cell_below hb2 g2; replace g3 := pw_cell_below hb2 g3; (try replace f0 := pw_cell_below hb2 f0); clear hb2)
            | (go_at_call 22; refine (ref02_Right_calls y1 y2 y3 _).mono ?_; rw [hV]; rintro e w3 ⟨rfl, hb2⟩; replace HB := Lib.hid (keepB0 hb2 HB.out); replace g0 := pw_cell_below hb2 g0; (try replace f0 := pw_cell_below hb2 f0); clear hb2))
          go_big_quiet (fail)
          go_wp2
          go_roundw
          case rel => exact ⟨1, by omega, by go_num, Lib.hid (pw_below_drewN HB.out _), Lib.hid (by rw [← HE.out]; simp [prevAt])⟩
          case measure => simp [intOf]; omega
        | succ m =>
          obtain ⟨ad', e, f0, -, -, -⟩ := at_Prp (Kd.C_below HX.out HB.out) (m : Int) (by omega) (by omega)
          cases e
          simp only [Int.toNat_natCast, rd_Prp] at f0
          have hmem2 := HF.out (l.getD m zPrp) (by simp [List.getD_eq_getElem?_getD, List.getElem?_eq_getElem (show m < l.length by omega)])
          have HP : Hid (prevAt l (m + 1) = some (l.getD m zPrp).f0) := Lib.hid (by simp [prevAt])
          generalize (l.getD m zPrp).f0 = x0 at f0 HP hmem2
          have hwr : IntKind.i64.wrap (m : Int) = (m : Int) := IntWalk.i64_in _ (by omega)
          have hm1 : (0 : Int) ≤ (m : Int) := by omega
          have hm2 : (m : Int) < (l.length : Int) := by omega
          have hm3 : (m : Int) + 1 < (l.length : Int) := by omega
          have hm5 : (0 : Int) ≤ (m : Int) + 1 := by omega
          have hm6 : ¬ ((m : Int) + 1 < 0) := by omega
          have hm7 : ¬ ((l.length : Int) ≤ (m : Int) + 1) := by omega
          cases hO : decide (0 ≤ cmpS x0 y0) with
          | true =>
            have HE := Lib.hid (propsRight_no (by rw [← HI.out, HS.out, hN, hV', HP.out]; have := of_decide_eq_true hO; simp [Int.not_lt.2 this]))
            go_wp2_with (first
              | (go_at_call 67; refine (ref01_Right_calls y0 _ (by omega)).mono ?_; rw [hN]; rintro e w2 ⟨rfl, hb2⟩; replace HB := Lib.hid (keepB0 hb2 HB.out); replace g0 := pw_cell_below hb2 g0; replace g1 := pw_cell_below hb2 g1; replace g2 := pw_cell_below hb2 g2; replace g3 := pw_cell_below hb2 g3; (try replace f0 := pw_cell_below hb2 f0); clear hb2)
              | (go_at_call 22; refine (ref02_Right_calls y1 y2 y3 _).mono ?_; rw [hV]; rintro e w3 ⟨rfl, hb2⟩; replace HB := Lib.hid (keepB0 hb2 HB.out); replace g0 := pw_cell_below hb2 g0; (try replace f0 := pw_cell_below hb2 f0); clear hb2))
            refine wp_region_held_drew (S := (fun w' => w'.cell? (ad.add (m * 4)) = some (.string x0) ∧ w'.cell? (ad.add ((m + 1) * 4)) = some (.string y0) ∧ Below w.heap.size w w')) (by kernel_rfl) ?hS1 (fun hH0 => ?_)
            case hS1 => exact ⟨pw_cell_below (below_drew (Below.refl _ _)) f0, pw_cell_below (below_drew (Below.refl _ _)) g0, below_drew HB.out⟩
            refine takeY (oi := { dst := some 29, op := Op.move (Operand.tmp 3), type := 3, pos := "ref.go:19", after := #[], guard := none }) 0 (some 29) (v := ?v0_1) rfl rfl (by kernel_rfl) (by kernel_rfl) (by kernel_rfl) (fun _ _ _ h => h) (by kernel_rfl) ?hy1 hH0 ?_
            case hy1 => (intro w_ hSw; (try dsimp only at hSw); (obtain ⟨c0, c1, -⟩ := hSw; go_simp; (first | done | with_reducible rfl | rw [if_neg (by omega)])))
            simp only [Act.put, List.setIfInBounds_toArray, List.set_cons_zero, List.set_cons_succ]
            refine takeY (oi := { dst := some 30, op := Op.binOp BinOp.gtr 3 (Operand.tmp 29) (Operand.const (Value.int IntKind.i64 0)) 3, type := 4, pos := "ref.go:19", after := #[{ on := 0, ground := Ground.data }], guard := none }) 1 (some 30) (v := ?v1_1) rfl rfl (by kernel_rfl) (by kernel_rfl) (by kernel_rfl) (fun _ _ _ h => h) (by kernel_rfl) ?hy1 hH0 ?_
            case hy1 => (intro w_ hSw; (try dsimp only at hSw); (obtain ⟨c0, c1, -⟩ := hSw; go_simp; (first | done | with_reducible rfl | rw [if_neg (by omega)])))
            simp only [Act.put, List.setIfInBounds_toArray, List.set_cons_zero, List.set_cons_succ]
            refine takeY (oi := { dst := some 31, op := Op.move (Operand.tmp 30), type := 4, pos := "ref.go:19", after := #[{ on := 1, ground := Ground.data }], guard := none }) 2 (some 31) (v := ?v2_1) rfl rfl (by kernel_rfl) (by kernel_rfl) (by kernel_rfl) (fun _ _ _ h => h) (by kernel_rfl) ?hy1 hH0 ?_
            case hy1 => (intro w_ hSw; (try dsimp only at hSw); (obtain ⟨c0, c1, -⟩ := hSw; go_simp; (first | done | with_reducible rfl | rw [if_neg (by omega)])))
            simp only [Act.put, List.setIfInBounds_toArray, List.set_cons_zero, List.set_cons_succ]
            refine takeY (oi := { dst := some 32, op := Op.move (Operand.tmp 0), type := 22, pos := "ref.go:19", after := #[{ on := 2, ground := Ground.guard }], guard := some (2, true) }) 3 (some 32) (v := ?v3_1) rfl rfl (by kernel_rfl) (by kernel_rfl) (by kernel_rfl) (fun _ _ _ h => h) (by kernel_rfl) ?hy1 hH0 ?_
            case hy1 => (intro w_ hSw; (try dsimp only at hSw); (obtain ⟨c0, c1, -⟩ := hSw; go_simp; (first | done | with_reducible rfl | rw [if_neg (by omega)])))
            simp only [Act.put, List.setIfInBounds_toArray, List.set_cons_zero, List.set_cons_succ]
            refine takeY (oi := { dst := some 33, op := Op.move (Operand.tmp 3), type := 3, pos := "ref.go:19", after := #[{ on := 2, ground := Ground.guard }], guard := some (2, true) }) 4 (some 33) (v := ?v4_1) rfl rfl (by kernel_rfl) (by kernel_rfl) (by kernel_rfl) (fun _ _ _ h => h) (by kernel_rfl) ?hy1 hH0 ?_
            case hy1 => (intro w_ hSw; (try dsimp only at hSw); (obtain ⟨c0, c1, -⟩ := hSw; go_simp; (first | done | with_reducible rfl | rw [if_neg (by omega)])))
            simp only [Act.put, List.setIfInBounds_toArray, List.set_cons_zero, List.set_cons_succ]
            refine takeY (oi := { dst := some 34, op := Op.binOp BinOp.sub 3 (Operand.tmp 33) (Operand.const (Value.int IntKind.i64 1)) 3, type := 3, pos := "ref.go:19", after := #[{ on := 4, ground := Ground.data }, { on := 2, ground := Ground.guard }], guard := some (2, true) }) 5 (some 34) (v := ?v5_1) rfl rfl (by kernel_rfl) (by kernel_rfl) (by kernel_rfl) (fun _ _ _ h => h) (by kernel_rfl) ?hy1 hH0 ?_
            case hy1 => (intro w_ hSw; (try dsimp only at hSw); (obtain ⟨c0, c1, -⟩ := hSw; go_simp; (first | done | with_reducible rfl | rw [if_neg (by omega)])))
            simp only [Act.put, List.setIfInBounds_toArray, List.set_cons_zero, List.set_cons_succ]
            refine takeY (oi := { dst := some 35, op := Op.indexAddr 22 (Operand.tmp 32) (Operand.tmp 34), type := 0, pos := "ref.go:19", after := #[{ on := 3, ground := Ground.data }, { on := 5, ground := Ground.data }, { on := 2, ground := Ground.guard }], guard := some (2, true) }) 6 (some 35) (v := ?v6_1) rfl rfl (by kernel_rfl) (by kernel_rfl) (by kernel_rfl) (fun _ _ _ h => h) (by kernel_rfl) ?hy1 hH0 ?_
            case hy1 => (intro w_ hSw; (try dsimp only at hSw); (obtain ⟨c0, c1, -⟩ := hSw; go_simp; (first | done | with_reducible rfl | rw [if_neg (by omega)])))
            simp only [Act.put, List.setIfInBounds_toArray, List.set_cons_zero, List.set_cons_succ]
            refine takeY (oi := { dst := some 36, op := Op.fieldAddr 117 (Operand.tmp 35) 0, type := 0, pos := "ref.go:19", after := #[{ on := 6, ground := Ground.data }, { on := 2, ground := Ground.guard }], guard := some (2, true) }) 7 (some 36) (v := ?v7_1) rfl rfl (by kernel_rfl) (by kernel_rfl) (by kernel_rfl) (fun _ _ _ h => h) (by kernel_rfl) ?hy1 hH0 ?_
            case hy1 => (intro w_ hSw; (try dsimp only at hSw); (obtain ⟨c0, c1, -⟩ := hSw; go_simp; (first | done | with_reducible rfl | rw [if_neg (by omega)])))
            simp only [Act.put, List.setIfInBounds_toArray, List.set_cons_zero, List.set_cons_succ]
            refine takeY (oi := { dst := some 37, op := Op.load 9 (Operand.tmp 36), type := 9, pos := "ref.go:19", after := #[{ on := 7, ground := Ground.data }, { on := 2, ground := Ground.guard }], guard := some (2, true) }) 8 (some 37) (v := ?v8_1) rfl rfl (by kernel_rfl) (by kernel_rfl) (by kernel_rfl) (fun _ _ _ h => h) (by kernel_rfl) ?hy1 hH0 ?_
            case hy1 => (intro w_ hSw; (try dsimp only at hSw); (obtain ⟨c0, c1, -⟩ := hSw; go_simp; (first | done | with_reducible rfl | rw [if_neg (by omega)])))
            simp only [Act.put, List.setIfInBounds_toArray, List.set_cons_zero, List.set_cons_succ]
            refine takeY (oi := { dst := some 38, op := Op.move (Operand.tmp 0), type := 22, pos := "ref.go:19", after := #[{ on := 2, ground := Ground.guard }], guard := some (2, true) }) 9 (some 38) (v := ?v9_1) rfl rfl (by kernel_rfl) (by kernel_rfl) (by kernel_rfl) (fun _ _ _ h => h) (by kernel_rfl) ?hy1 hH0 ?_
            case hy1 => (intro w_ hSw; (try dsimp only at hSw); (obtain ⟨c0, c1, -⟩ := hSw; go_simp; (first | done | with_reducible rfl | rw [if_neg (by omega)])))
            simp only [Act.put, List.setIfInBounds_toArray, List.set_cons_zero, List.set_cons_succ]
            refine takeY (oi := { dst := some 39, op := Op.move (Operand.tmp 3), type := 3, pos := "ref.go:19", after := #[{ on := 2, ground := Ground.guard }], guard := some (2, true) }) 10 (some 39) (v := ?v10_1) rfl rfl (by kernel_rfl) (by kernel_rfl) (by kernel_rfl) (fun _ _ _ h => h) (by kernel_rfl) ?hy1 hH0 ?_
            case hy1 => (intro w_ hSw; (try dsimp only at hSw); (obtain ⟨c0, c1, -⟩ := hSw; go_simp; (first | done | with_reducible rfl | rw [if_neg (by omega)])))
            simp only [Act.put, List.setIfInBounds_toArray, List.set_cons_zero, List.set_cons_succ]
            refine takeY (oi := { dst := some 40, op := Op.indexAddr 22 (Operand.tmp 38) (Operand.tmp 39), type := 0, pos := "ref.go:19", after := #[{ on := 9, ground := Ground.data }, { on := 10, ground := Ground.data }, { on := 2, ground := Ground.guard }], guard := some (2, true) }) 11 (some 40) (v := ?v11_1) rfl rfl (by kernel_rfl) (by kernel_rfl) (by kernel_rfl) (fun _ _ _ h => h) (by kernel_rfl) ?hy1 hH0 ?_
            case hy1 => (intro w_ hSw; (try dsimp only at hSw); (obtain ⟨c0, c1, -⟩ := hSw; go_simp; (first | done | with_reducible rfl | rw [if_neg (by omega)])))
            simp only [Act.put, List.setIfInBounds_toArray, List.set_cons_zero, List.set_cons_succ]
            refine takeY (oi := { dst := some 41, op := Op.fieldAddr 117 (Operand.tmp 40) 0, type := 0, pos := "ref.go:19", after := #[{ on := 11, ground := Ground.data }, { on := 2, ground := Ground.guard }], guard := some (2, true) }) 12 (some 41) (v := ?v12_1) rfl rfl (by kernel_rfl) (by kernel_rfl) (by kernel_rfl) (fun _ _ _ h => h) (by kernel_rfl) ?hy1 hH0 ?_
            case hy1 => (intro w_ hSw; (try dsimp only at hSw); (obtain ⟨c0, c1, -⟩ := hSw; go_simp; (first | done | with_reducible rfl | rw [if_neg (by omega)])))
            simp only [Act.put, List.setIfInBounds_toArray, List.set_cons_zero, List.set_cons_succ]
            refine takeY (oi := { dst := some 42, op := Op.load 9 (Operand.tmp 41), type := 9, pos := "ref.go:19", after := #[{ on := 12, ground := Ground.data }, { on := 2, ground := Ground.guard }], guard := some (2, true) }) 13 (some 42) (v := ?v13_1) rfl rfl (by kernel_rfl) (by kernel_rfl) (by kernel_rfl) (fun _ _ _ h => h) (by kernel_rfl) ?hy1 hH0 ?_
            case hy1 => (intro w_ hSw; (try dsimp only at hSw); (obtain ⟨c0, c1, -⟩ := hSw; go_simp; (first | done | with_reducible rfl | rw [if_neg (by omega)])))
            simp only [Act.put, List.setIfInBounds_toArray, List.set_cons_zero, List.set_cons_succ]
            refine wpAnyH_ready (rs := [14]) (by kernel_rfl) (by simp) ?_
            refine AllReadyH.cons (o := { dst := some 43, op := Op.call { callee := Callee.value (Operand.func 106), args := #[Operand.tmp 37, Operand.tmp 42], argTypes := #[9, 9] }, type := 3, pos := "ref.go:19", after := #[{ on := 8, ground := Ground.data }, { on := 13, ground := Ground.data }, { on := 2, ground := Ground.chain }, { on := 2, ground := Ground.guard }], guard := some (2, true) }) rfl (fun K1 hK1 => ?_) AllReadyH.nil
            go_simp; refine (ref01_Compare_calls x0 y0 _ (by omega) (by omega)).mono ?_; rintro e w4 ⟨rfl, hb4⟩
            refine hK1.out _ _ ?hS1 (fun hH1 => ?_)
            case hS1 => ((try dsimp only); (exact ⟨pw_cell_below hb4 hH0.1, pw_cell_below hb4 hH0.2.1, keepB0 hb4 hH0.2.2⟩))
            clear hK1 K1
            (try clear hH0)
            (try simp only [Act.put, List.setIfInBounds_toArray, List.set_cons_zero, List.set_cons_succ])
            refine takeY (oi := { dst := some 44, op := Op.binOp BinOp.geq 3 (Operand.tmp 43) (Operand.const (Value.int IntKind.i64 0)) 3, type := 4, pos := "ref.go:19", after := #[{ on := 14, ground := Ground.data }, { on := 2, ground := Ground.guard }], guard := some (2, true) }) 15 (some 44) (v := ?v15_1) rfl rfl (by kernel_rfl) (by kernel_rfl) (by kernel_rfl) (fun _ _ _ h => h) (by kernel_rfl) ?hy1 hH1 ?_
            case hy1 => (intro w_ hSw; (try dsimp only at hSw); (obtain ⟨c0, c1, -⟩ := hSw; go_simp; (first | done | with_reducible rfl | rw [if_neg (by omega)])))
            simp only [Act.put, List.setIfInBounds_toArray, List.set_cons_zero, List.set_cons_succ]
            refine takeY (oi := { dst := some 45, op := Op.pick (Operand.tmp 31) (Operand.tmp 44) (Operand.const (Value.bool false)), type := 4, pos := "ref.go:19", after := #[{ on := 2, ground := Ground.data }, { on := 15, ground := Ground.data }], guard := none }) 16 (some 45) (v := ?v16_1) rfl rfl (by kernel_rfl) (by kernel_rfl) (by kernel_rfl) (fun _ _ _ h => h) (by kernel_rfl) ?hy1 hH1 ?_
            case hy1 => (intro w_ hSw; (try dsimp only at hSw); (obtain ⟨c0, c1, -⟩ := hSw; go_simp; (first | done | with_reducible rfl | rw [if_neg (by omega)])))
            simp only [Act.put, List.setIfInBounds_toArray, List.set_cons_zero, List.set_cons_succ]
            refine wpAnyH_done (by kernel_rfl) ?_ _
            have hEnd := hH1
            clear hH1
            have HB2 := Lib.hid hEnd.2.2
            go_wp2
            go_ret
            exact ⟨ret_bool HE.out.symm, HB2.out⟩
          | false =>
            have HS2 := Lib.hid (show propsFrom (prevAt l (m + 1)) (l.drop (m + 1)) = propsFrom (prevAt l (m + 1 + 1)) (l.drop (m + 1 + 1)) by rw [HS.out, hN, hV', HP.out]; have := of_decide_eq_false hO; simp; omega)
            go_wp2_with (first
              | (go_at_call 67; refine (ref01_Right_calls y0 _ (by omega)).mono ?_; rw [hN]; rintro e w2 ⟨rfl, hb2⟩; replace HB := Lib.hid (keepB0 hb2 HB.out); replace g0 := pw_cell_below hb2 g0; replace g1 := pw_cell_below hb2 g1; replace g2 := pw_cell_below hb2 g2; replace g3 := pw_cell_below hb2 g3; (try replace f0 := pw_cell_below hb2 f0); clear hb2)
              | (go_at_call 22; refine (ref02_Right_calls y1 y2 y3 _).mono ?_; rw [hV]; rintro e w3 ⟨rfl, hb2⟩; replace HB := Lib.hid (keepB0 hb2 HB.out); replace g0 := pw_cell_below hb2 g0; (try replace f0 := pw_cell_below hb2 f0); clear hb2))
            refine wp_region_held_drew (S := (fun w' => w'.cell? (ad.add (m * 4)) = some (.string x0) ∧ w'.cell? (ad.add ((m + 1) * 4)) = some (.string y0) ∧ Below w.heap.size w w')) (by kernel_rfl) ?hS2 (fun hH0 => ?_)
            case hS2 => exact ⟨pw_cell_below (below_drew (Below.refl _ _)) f0, pw_cell_below (below_drew (Below.refl _ _)) g0, below_drew HB.out⟩
            refine takeY (oi := { dst := some 29, op := Op.move (Operand.tmp 3), type := 3, pos := "ref.go:19", after := #[], guard := none }) 0 (some 29) (v := ?v0_2) rfl rfl (by kernel_rfl) (by kernel_rfl) (by kernel_rfl) (fun _ _ _ h => h) (by kernel_rfl) ?hy2 hH0 ?_
            case hy2 => (intro w_ hSw; (try dsimp only at hSw); (obtain ⟨c0, c1, -⟩ := hSw; go_simp; (first | done | with_reducible rfl | rw [if_neg (by omega)])))
            simp only [Act.put, List.setIfInBounds_toArray, List.set_cons_zero, List.set_cons_succ]
            refine takeY (oi := { dst := some 30, op := Op.binOp BinOp.gtr 3 (Operand.tmp 29) (Operand.const (Value.int IntKind.i64 0)) 3, type := 4, pos := "ref.go:19", after := #[{ on := 0, ground := Ground.data }], guard := none }) 1 (some 30) (v := ?v1_2) rfl rfl (by kernel_rfl) (by kernel_rfl) (by kernel_rfl) (fun _ _ _ h => h) (by kernel_rfl) ?hy2 hH0 ?_
            case hy2 => (intro w_ hSw; (try dsimp only at hSw); (obtain ⟨c0, c1, -⟩ := hSw; go_simp; (first | done | with_reducible rfl | rw [if_neg (by omega)])))
            simp only [Act.put, List.setIfInBounds_toArray, List.set_cons_zero, List.set_cons_succ]
            refine takeY (oi := { dst := some 31, op := Op.move (Operand.tmp 30), type := 4, pos := "ref.go:19", after := #[{ on := 1, ground := Ground.data }], guard := none }) 2 (some 31) (v := ?v2_2) rfl rfl (by kernel_rfl) (by kernel_rfl) (by kernel_rfl) (fun _ _ _ h => h) (by kernel_rfl) ?hy2 hH0 ?_
            case hy2 => (intro w_ hSw; (try dsimp only at hSw); (obtain ⟨c0, c1, -⟩ := hSw; go_simp; (first | done | with_reducible rfl | rw [if_neg (by omega)])))
            simp only [Act.put, List.setIfInBounds_toArray, List.set_cons_zero, List.set_cons_succ]
            refine takeY (oi := { dst := some 32, op := Op.move (Operand.tmp 0), type := 22, pos := "ref.go:19", after := #[{ on := 2, ground := Ground.guard }], guard := some (2, true) }) 3 (some 32) (v := ?v3_2) rfl rfl (by kernel_rfl) (by kernel_rfl) (by kernel_rfl) (fun _ _ _ h => h) (by kernel_rfl) ?hy2 hH0 ?_
            case hy2 => (intro w_ hSw; (try dsimp only at hSw); (obtain ⟨c0, c1, -⟩ := hSw; go_simp; (first | done | with_reducible rfl | rw [if_neg (by omega)])))
            simp only [Act.put, List.setIfInBounds_toArray, List.set_cons_zero, List.set_cons_succ]
            refine takeY (oi := { dst := some 33, op := Op.move (Operand.tmp 3), type := 3, pos := "ref.go:19", after := #[{ on := 2, ground := Ground.guard }], guard := some (2, true) }) 4 (some 33) (v := ?v4_2) rfl rfl (by kernel_rfl) (by kernel_rfl) (by kernel_rfl) (fun _ _ _ h => h) (by kernel_rfl) ?hy2 hH0 ?_
            case hy2 => (intro w_ hSw; (try dsimp only at hSw); (obtain ⟨c0, c1, -⟩ := hSw; go_simp; (first | done | with_reducible rfl | rw [if_neg (by omega)])))
            simp only [Act.put, List.setIfInBounds_toArray, List.set_cons_zero, List.set_cons_succ]
            refine takeY (oi := { dst := some 34, op := Op.binOp BinOp.sub 3 (Operand.tmp 33) (Operand.const (Value.int IntKind.i64 1)) 3, type := 3, pos := "ref.go:19", after := #[{ on := 4, ground := Ground.data }, { on := 2, ground := Ground.guard }], guard := some (2, true) }) 5 (some 34) (v := ?v5_2) rfl rfl (by kernel_rfl) (by kernel_rfl) (by kernel_rfl) (fun _ _ _ h => h) (by kernel_rfl) ?hy2 hH0 ?_
            case hy2 => (intro w_ hSw; (try dsimp only at hSw); (obtain ⟨c0, c1, -⟩ := hSw; go_simp; (first | done | with_reducible rfl | rw [if_neg (by omega)])))
            simp only [Act.put, List.setIfInBounds_toArray, List.set_cons_zero, List.set_cons_succ]
            refine takeY (oi := { dst := some 35, op := Op.indexAddr 22 (Operand.tmp 32) (Operand.tmp 34), type := 0, pos := "ref.go:19", after := #[{ on := 3, ground := Ground.data }, { on := 5, ground := Ground.data }, { on := 2, ground := Ground.guard }], guard := some (2, true) }) 6 (some 35) (v := ?v6_2) rfl rfl (by kernel_rfl) (by kernel_rfl) (by kernel_rfl) (fun _ _ _ h => h) (by kernel_rfl) ?hy2 hH0 ?_
            case hy2 => (intro w_ hSw; (try dsimp only at hSw); (obtain ⟨c0, c1, -⟩ := hSw; go_simp; (first | done | with_reducible rfl | rw [if_neg (by omega)])))
            simp only [Act.put, List.setIfInBounds_toArray, List.set_cons_zero, List.set_cons_succ]
            refine takeY (oi := { dst := some 36, op := Op.fieldAddr 117 (Operand.tmp 35) 0, type := 0, pos := "ref.go:19", after := #[{ on := 6, ground := Ground.data }, { on := 2, ground := Ground.guard }], guard := some (2, true) }) 7 (some 36) (v := ?v7_2) rfl rfl (by kernel_rfl) (by kernel_rfl) (by kernel_rfl) (fun _ _ _ h => h) (by kernel_rfl) ?hy2 hH0 ?_
            case hy2 => (intro w_ hSw; (try dsimp only at hSw); (obtain ⟨c0, c1, -⟩ := hSw; go_simp; (first | done | with_reducible rfl | rw [if_neg (by omega)])))
            simp only [Act.put, List.setIfInBounds_toArray, List.set_cons_zero, List.set_cons_succ]
            refine takeY (oi := { dst := some 37, op := Op.load 9 (Operand.tmp 36), type := 9, pos := "ref.go:19", after := #[{ on := 7, ground := Ground.data }, { on := 2, ground := Ground.guard }], guard := some (2, true) }) 8 (some 37) (v := ?v8_2) rfl rfl (by kernel_rfl) (by kernel_rfl) (by kernel_rfl) (fun _ _ _ h => h) (by kernel_rfl) ?hy2 hH0 ?_
            case hy2 => (intro w_ hSw; (try dsimp only at hSw); (obtain ⟨c0, c1, -⟩ := hSw; go_simp; (first | done | with_reducible rfl | rw [if_neg (by omega)])))
            simp only [Act.put, List.setIfInBounds_toArray, List.set_cons_zero, List.set_cons_succ]
            refine takeY (oi := { dst := some 38, op := Op.move (Operand.tmp 0), type := 22, pos := "ref.go:19", after := #[{ on := 2, ground := Ground.guard }], guard := some (2, true) }) 9 (some 38) (v := ?v9_2) rfl rfl (by kernel_rfl) (by kernel_rfl) (by kernel_rfl) (fun _ _ _ h => h) (by kernel_rfl) ?hy2 hH0 ?_
            case hy2 => (intro w_ hSw; (try dsimp only at hSw); (obtain ⟨c0, c1, -⟩ := hSw; go_simp; (first | done | with_reducible rfl | rw [if_neg (by omega)])))
            simp only [Act.put, List.setIfInBounds_toArray, List.set_cons_zero, List.set_cons_succ]
            refine takeY (oi := { dst := some 39, op := Op.move (Operand.tmp 3), type := 3, pos := "ref.go:19", after := #[{ on := 2, ground := Ground.guard }], guard := some (2, true) }) 10 (some 39) (v := ?v10_2) rfl rfl (by kernel_rfl) (by kernel_rfl) (by kernel_rfl) (fun _ _ _ h => h) (by kernel_rfl) ?hy2 hH0 ?_
            case hy2 => (intro w_ hSw; (try dsimp only at hSw); (obtain ⟨c0, c1, -⟩ := hSw; go_simp; (first | done | with_reducible rfl | rw [if_neg (by omega)])))
            simp only [Act.put, List.setIfInBounds_toArray, List.set_cons_zero, List.set_cons_succ]
            refine takeY (oi := { dst := some 40, op := Op.indexAddr 22 (Operand.tmp 38) (Operand.tmp 39), type := 0, pos := "ref.go:19", after := #[{ on := 9, ground := Ground.data }, { on := 10, ground := Ground.data }, { on := 2, ground := Ground.guard }], guard := some (2, true) }) 11 (some 40) (v := ?v11_2) rfl rfl (by kernel_rfl) (by kernel_rfl) (by kernel_rfl) (fun _ _ _ h => h) (by kernel_rfl) ?hy2 hH0 ?_
            case hy2 => (intro w_ hSw; (try dsimp only at hSw); (obtain ⟨c0, c1, -⟩ := hSw; go_simp; (first | done | with_reducible rfl | rw [if_neg (by omega)])))
            simp only [Act.put, List.setIfInBounds_toArray, List.set_cons_zero, List.set_cons_succ]
            refine takeY (oi := { dst := some 41, op := Op.fieldAddr 117 (Operand.tmp 40) 0, type := 0, pos := "ref.go:19", after := #[{ on := 11, ground := Ground.data }, { on := 2, ground := Ground.guard }], guard := some (2, true) }) 12 (some 41) (v := ?v12_2) rfl rfl (by kernel_rfl) (by kernel_rfl) (by kernel_rfl) (fun _ _ _ h => h) (by kernel_rfl) ?hy2 hH0 ?_
            case hy2 => (intro w_ hSw; (try dsimp only at hSw); (obtain ⟨c0, c1, -⟩ := hSw; go_simp; (first | done | with_reducible rfl | rw [if_neg (by omega)])))
            simp only [Act.put, List.setIfInBounds_toArray, List.set_cons_zero, List.set_cons_succ]
            refine takeY (oi := { dst := some 42, op := Op.load 9 (Operand.tmp 41), type := 9, pos := "ref.go:19", after := #[{ on := 12, ground := Ground.data }, { on := 2, ground := Ground.guard }], guard := some (2, true) }) 13 (some 42) (v := ?v13_2) rfl rfl (by kernel_rfl) (by kernel_rfl) (by kernel_rfl) (fun _ _ _ h => h) (by kernel_rfl) ?hy2 hH0 ?_
            case hy2 => (intro w_ hSw; (try dsimp only at hSw); (obtain ⟨c0, c1, -⟩ := hSw; go_simp; (first | done | with_reducible rfl | rw [if_neg (by omega)])))
            simp only [Act.put, List.setIfInBounds_toArray, List.set_cons_zero, List.set_cons_succ]
            refine wpAnyH_ready (rs := [14]) (by kernel_rfl) (by simp) ?_
            refine AllReadyH.cons (o := { dst := some 43, op := Op.call { callee := Callee.value (Operand.func 106), args := #[Operand.tmp 37, Operand.tmp 42], argTypes := #[9, 9] }, type := 3, pos := "ref.go:19", after := #[{ on := 8, ground := Ground.data }, { on := 13, ground := Ground.data }, { on := 2, ground := Ground.chain }, { on := 2, ground := Ground.guard }], guard := some (2, true) }) rfl (fun K1 hK1 => ?_) AllReadyH.nil
            go_simp; refine (ref01_Compare_calls x0 y0 _ (by omega) (by omega)).mono ?_; rintro e w4 ⟨rfl, hb4⟩
            refine hK1.out _ _ ?hS2 (fun hH1 => ?_)
            case hS2 => ((try dsimp only); (exact ⟨pw_cell_below hb4 hH0.1, pw_cell_below hb4 hH0.2.1, keepB0 hb4 hH0.2.2⟩))
            clear hK1 K1
            (try clear hH0)
            (try simp only [Act.put, List.setIfInBounds_toArray, List.set_cons_zero, List.set_cons_succ])
            refine takeY (oi := { dst := some 44, op := Op.binOp BinOp.geq 3 (Operand.tmp 43) (Operand.const (Value.int IntKind.i64 0)) 3, type := 4, pos := "ref.go:19", after := #[{ on := 14, ground := Ground.data }, { on := 2, ground := Ground.guard }], guard := some (2, true) }) 15 (some 44) (v := ?v15_2) rfl rfl (by kernel_rfl) (by kernel_rfl) (by kernel_rfl) (fun _ _ _ h => h) (by kernel_rfl) ?hy2 hH1 ?_
            case hy2 => (intro w_ hSw; (try dsimp only at hSw); (obtain ⟨c0, c1, -⟩ := hSw; go_simp; (first | done | with_reducible rfl | rw [if_neg (by omega)])))
            simp only [Act.put, List.setIfInBounds_toArray, List.set_cons_zero, List.set_cons_succ]
            refine takeY (oi := { dst := some 45, op := Op.pick (Operand.tmp 31) (Operand.tmp 44) (Operand.const (Value.bool false)), type := 4, pos := "ref.go:19", after := #[{ on := 2, ground := Ground.data }, { on := 15, ground := Ground.data }], guard := none }) 16 (some 45) (v := ?v16_2) rfl rfl (by kernel_rfl) (by kernel_rfl) (by kernel_rfl) (fun _ _ _ h => h) (by kernel_rfl) ?hy2 hH1 ?_
            case hy2 => (intro w_ hSw; (try dsimp only at hSw); (obtain ⟨c0, c1, -⟩ := hSw; go_simp; (first | done | with_reducible rfl | rw [if_neg (by omega)])))
            simp only [Act.put, List.setIfInBounds_toArray, List.set_cons_zero, List.set_cons_succ]
            refine wpAnyH_done (by kernel_rfl) ?_ _
            have hEnd := hH1
            clear hH1
            have HB2 := Lib.hid hEnd.2.2
            go_wp2
            go_roundw
            case rel => exact ⟨m + 1 + 1, by omega, by go_num, HB2, Lib.hid (by rw [← HS2.out]; exact HI.out)⟩
            case measure => simp [intOf]; omega
      · have hlt2 : ¬ (k : Int) < (l.length : Int) := by omega
        go_wp2
        go_ret
        refine ⟨ret_bool ?_, HB.out⟩
        have := HI.out
        rw [List.drop_eq_nil_of_le (by omega)] at this
        unfold propsRight
        rw [← this, propsFrom, Bool.true_and]
        exact (decide_eq_true h16).symm
  · have h16' : (16 : Int) < (l.length : Int) := by omega
    go_enter Try.func75, Try.ntmps75
    go_wp2
    go_ret
    exact ⟨ret_bool (by unfold propsRight; rw [decide_eq_false h16, Bool.and_false]), Below.refl _ _⟩

set_option maxRecDepth 100000 in
set_option maxHeartbeats 4000000 in
theorem ref16_Check_calls (label : ByteArray) (A B : Option Addr) (c d : Nat) (ps : List SPrp) (ids : List Int) (w : World) (hl : label.size ≤ 100000) (hp : kPrp.C w A ps.length ps) (hf : fits ps) (hi : (Kd.int .i64).C w B ids.length ids) :
    Calls Try.prog 36 #[.string label, .slice A ps.length c, .slice B ids.length d] w fun e w' => e = .returned (.int .i64 (checkN label ps ids)) ∧ Below w.heap.size w w' := by
  have hm := Kd.C_max hi
  have HP := Lib.hid hp; clear hp
  have HX := Lib.hid hi; clear hi
  have HF := Lib.hid hf; clear hf
  go_enter Try.func36, Try.ntmps36
  go_wp2
  go_loopw [7] (fun v7 wr => ∃ k : Nat, k ≤ ids.length ∧ v7 = .int .i64 k ∧ wr = w ∧ Hid ((ids.drop k).all idOk = ids.all idOk)) (fun v7 _ => ids.length - (intOf v7).toNat)
  case atStart => exact ⟨0, Nat.zero_le _, rfl, rfl, Lib.hid rfl⟩
  case round =>
    obtain ⟨k, hk, rfl, rfl, HI⟩ := hrel
    by_cases hlt : k < ids.length
    · have hlt2 : (k : Int) < (ids.length : Int) := by omega
      have HD := Lib.hid (drop_cons ids k 0 hlt)
      obtain ⟨ad, rfl, g0⟩ := Kd.at_int HX.out (k : Int) (by omega) (by omega)
      simp only [Int.toNat_natCast, rd] at g0
      generalize ids.getD k 0 = x at HD g0
      cases hok : idOk x with
      | true =>
        have hx : 0 ≤ x ∧ x < 1099511627776 := by simpa [idOk] using hok
        obtain ⟨hx0, hx1⟩ := hx
        have hx2 : ¬ x < 0 := by omega
        have hx3 : ¬ 1099511627776 ≤ x := by omega
        go_wp2
        go_roundw
        case rel => exact ⟨k + 1, by omega, by go_num, by trivial, Lib.hid (by rw [← HI.out, HD.out, List.all_cons, hok, Bool.true_and])⟩
        case measure => simp [intOf]; omega
      | false =>
        have HE : Hid (checkN label ps ids = 2) := Lib.hid (by unfold checkN; rw [← HI.out, HD.out, List.all_cons, hok]; rfl)
        by_cases hx : x < 0
        · go_wp2
          go_ret
          exact ⟨ret_int HE.out.symm, Below.refl _ _⟩
        · have hx3 : 1099511627776 ≤ x := by
            have : ¬ (0 ≤ x ∧ x < 1099511627776) := fun h => by rw [idOk, decide_eq_true h.1, decide_eq_true h.2] at hok; cases hok
            omega
          go_wp2
          go_ret
          exact ⟨ret_int HE.out.symm, Below.refl _ _⟩
    · have hlt2 : ¬ (k : Int) < (ids.length : Int) := by omega
      have HA : Hid (ids.all idOk = true) := Lib.hid (by rw [← HI.out, List.drop_eq_nil_of_le (by omega)]; rfl)
      cases h2 : nameRight label with
      | false =>
        go_wp2_with (go_at_call 67; refine (ref01_Right_calls label _ hl).mono ?_; rw [h2]; rintro e w2 ⟨rfl, hb2⟩)
        go_ret
        exact ⟨ret_int (by unfold checkN; rw [HA.out, h2]; rfl), hb2⟩
      | true =>
        cases h3 : propsRight ps with
        | false =>
          go_wp2_with (first
            | (go_at_call 67; refine (ref01_Right_calls label _ hl).mono ?_; rw [h2]; rintro e w2 ⟨rfl, hb2⟩)
            | (go_at_call 75; refine (ref03_Right_calls A c ps _ (Kd.C_below HP.out hb2) HF.out).mono ?_; rw [h3]; rintro e w3 ⟨rfl, hb3⟩))
          go_ret
          exact ⟨ret_int (by unfold checkN; rw [HA.out, h2, h3]; rfl), keepB0 hb3 hb2⟩
        | true =>
          go_wp2_with (first
            | (go_at_call 67; refine (ref01_Right_calls label _ hl).mono ?_; rw [h2]; rintro e w2 ⟨rfl, hb2⟩)
            | (go_at_call 75; refine (ref03_Right_calls A c ps _ (Kd.C_below HP.out hb2) HF.out).mono ?_; rw [h3]; rintro e w3 ⟨rfl, hb3⟩))
          go_ret
          exact ⟨ret_int (by unfold checkN; rw [HA.out, h2, h3]; rfl), keepB0 hb3 hb2⟩
end Go.Proofs.Ytonbnlfijmapfaa
