/- cobweblaw21.WebKeys: true, whatever comes in. -/
import Derived.Test.YtonbnlfijmapfaaL27
namespace Go.Proofs.Ytonbnlfijmapfaa
open Go.RowKit Go.Shelf Go.Proofs.YtonbnlfijmapfaaW.PrintWords
set_option linter.unusedVariables false
set_option linter.unusedSimpArgs false

theorem web_LabelIndex_lit (s : ByteArray) (w : World) (hs : s.size ≤ 1000000) :
    Calls Try.prog 33 #[.string s] w fun e w' => e = .returned (.string (⟨#[76]⟩ ++ s)) ∧ w = w' := web_LabelIndex_calls s w hs
theorem web_ValueIndex_lit (s t : ByteArray) (w : World) (hs : s.size ≤ 1000000) (ht : t.size ≤ 1000000) :
    Calls Try.prog 34 #[.string s, .string t] w fun e w' => e = .returned (.string (⟨#[80]⟩ ++ s ++ ⟨#[32]⟩ ++ t)) ∧ w = w' := web_ValueIndex_calls s t w hs ht

def keys6 (a b : Int) (n : ByteArray) : List SKey := [⟨1, a, 0, ⟨#[]⟩⟩, ⟨2, a, 0, ⟨#[]⟩⟩, ⟨3, a, b, ⟨#[]⟩⟩, ⟨4, a, b, ⟨#[]⟩⟩, ⟨5, 0, 0, n⟩, ⟨6, 0, b, n⟩]
def cells6 (a b : Int) (n : ByteArray) : Array Value := #[.int .i64 1, .int .i64 a, .int .i64 0, .string ⟨#[]⟩, .int .i64 2, .int .i64 a, .int .i64 0, .string ⟨#[]⟩, .int .i64 3, .int .i64 a, .int .i64 b, .string ⟨#[]⟩,
  .int .i64 4, .int .i64 a, .int .i64 b, .string ⟨#[]⟩, .int .i64 5, .int .i64 0, .int .i64 0, .string n, .int .i64 6, .int .i64 0, .int .i64 b, .string n]
theorem keys6_C (a b : Int) (n : ByteArray) (W : World) (T g : Nat) (hg : g = W.heap.size) : kKey.C (W.alloc (.cells (cells6 a b n) T)) (some ⟨g, 0, none⟩) 6 (keys6 a b n) := by
  subst hg
  have hrep : Reps (kKey.M W W.heap.size (fun _ => True)) kKey.sz (keys6 a b n) (cells6 a b n).toList := by
    refine ⟨rfl, fun j p hj => ?_⟩
    match j, hj with
    | 0, hj => simp [keys6] at hj; subst hj; exact kKey_mkM _ _ _ _
    | 1, hj => simp [keys6] at hj; subst hj; exact kKey_mkM _ _ _ _
    | 2, hj => simp [keys6] at hj; subst hj; exact kKey_mkM _ _ _ _
    | 3, hj => simp [keys6] at hj; subst hj; exact kKey_mkM _ _ _ _
    | 4, hj => simp [keys6] at hj; subst hj; exact kKey_mkM _ _ _ _
    | 5, hj => simp [keys6] at hj; subst hj; exact kKey_mkM _ _ _ _
    | j + 6, hj => simp [keys6] at hj
  have hR := R_lits kKey (W := W) (base := W.heap.size) (T := T) (keys6 a b n) (cells6 a b n) hrep (Nat.le_refl _) (by simp [keys6])
  obtain ⟨A, c, e, _, hC⟩ := Kd.R_reads hR
  injection e with e1 e2 e3
  rw [← e1] at hC
  exact hC

theorem entryNum_lt {s : ByteArray} (h : s.size < 5) : entryNum s = -1 := by rw [entryNum, if_pos h]
theorem entryNum_ge {s : ByteArray} (h : ¬ s.size < 5) : entryNum s = firstFive (s.extract (s.size - 5) s.size) := by rw [entryNum, if_neg h]

set_option maxRecDepth 100000 in
set_option maxHeartbeats 4000000 in
theorem law21_WebKeys_no (a b : Int) (n m : ByteArray) (w : World) (hn : n.size > 500 ∨ n.size ≤ 500 ∧ m.size > 500) :
    Calls Try.prog 5 #[.int .i64 a, .int .i64 b, .agg #[.string n, .string m]] w fun e w' => e = .returned (.bool true) ∧ Below w.heap.size w w' := by
  have HB := Lib.hid (below_al w (.cells #[.string n, .string m] 53))
  have HK := Lib.hid (blk_new w #[.string n, .string m] 53)
  have p1 : True := trivial
  rcases hn with hn | ⟨hn, hm⟩
  · have h1 : (500 : Int) < (n.size : Int) := by omega
    go_enter Try.func5, Try.ntmps5
    go_wp2_with (first
      | (go_at_call 15; clear p1; refine (law21_awake_calls _).mono ?_; rintro e wa ⟨rfl, hb⟩; replace HK := Lib.hid (blk_below hb HK.out); replace HB := Lib.hid (keepB0 hb HB.out); clear hb; have x0 : wa.cell? ⟨w.heap.size, 0, none⟩ = some (.string n) := blk_cell HK.out 0; have x1 : wa.cell? ⟨w.heap.size, 1, none⟩ = some (.string m) := blk_cell HK.out 1)
      | (go_at_call 15; refine (law21_awake_calls _).mono ?_; rintro e wb ⟨rfl, hb⟩; replace HB := Lib.hid (keepB0 hb HB.out); clear hb))
    go_ret
    exact ⟨rfl, HB.out⟩
  · have h1 : ¬ (500 : Int) < (n.size : Int) := by omega
    have h2 : (500 : Int) < (m.size : Int) := by omega
    go_enter Try.func5, Try.ntmps5
    go_wp2_with (first
      | (go_at_call 15; clear p1; refine (law21_awake_calls _).mono ?_; rintro e wa ⟨rfl, hb⟩; replace HK := Lib.hid (blk_below hb HK.out); replace HB := Lib.hid (keepB0 hb HB.out); clear hb; have x0 : wa.cell? ⟨w.heap.size, 0, none⟩ = some (.string n) := blk_cell HK.out 0; have x1 : wa.cell? ⟨w.heap.size, 1, none⟩ = some (.string m) := blk_cell HK.out 1)
      | (go_at_call 15; refine (law21_awake_calls _).mono ?_; rintro e wb ⟨rfl, hb⟩; replace HB := Lib.hid (keepB0 hb HB.out); clear hb))
    go_ret
    exact ⟨rfl, HB.out⟩


set_option maxRecDepth 100000 in
set_option maxHeartbeats 8000000 in
theorem law21_WebKeys_lt (a b : Int) (n m : ByteArray) (w : World) (hn : n.size ≤ 500) (hm : m.size ≤ 500) (hl : n.size<5) :
    Calls Try.prog 5 #[.int .i64 a, .int .i64 b, .agg #[.string n, .string m]] w fun e w' => e = .returned (.bool true) ∧ Below w.heap.size w w' := by
  have HB := Lib.hid (below_al w (.cells #[.string n, .string m] 53))
  have HK := Lib.hid (blk_new w #[.string n, .string m] 53)
  have hl2 : (n.size:Int)<5 := by omega
  have HE := Lib.hid (entryNum_lt hl)
  have HL := Lib.hid hl; clear hl
  have h1 : ¬ (500 : Int) < (n.size : Int) := by omega
  have h2 : ¬ (500 : Int) < (m.size : Int) := by omega
  have p1 : True := trivial
  go_enter Try.func5, Try.ntmps5
  go_wp2_with (go_at_call 15; refine (law21_awake_calls _).mono ?_; rintro e wa ⟨rfl, hb⟩; replace HK := Lib.hid (blk_below hb HK.out); replace HB := Lib.hid (keepB0 hb HB.out); clear hb; have x0 : wa.cell? ⟨w.heap.size, 0, none⟩ = some (.string n) := blk_cell HK.out 0; have x1 : wa.cell? ⟨w.heap.size, 1, none⟩ = some (.string m) := blk_cell HK.out 1)
  go_big_quiet (fail)
  clear x0 x1
  replace HB := Lib.hid (pw_below_drewN HB.out nq)
  go_wp2_with (first
    | (go_at_call 27; refine (web_VertexKey_calls _ _).mono ?_; rintro e wb ⟨rfl, hb⟩; replace HB := Lib.hid (keepB0 hb HB.out); clear hb)
    | (go_at_call 28; refine (web_EdgeKey_calls _ _).mono ?_; rintro e wb ⟨rfl, hb⟩; replace HB := Lib.hid (keepB0 hb HB.out); clear hb)
    | (go_at_call 29; clear p1; refine (web_ChunkKey_calls _ _ true _).mono ?_; rintro e wb ⟨rfl, hb⟩; replace HB := Lib.hid (keepB0 hb HB.out); clear hb)
    | (go_at_call 29; refine (web_ChunkKey_calls _ _ false _).mono ?_; rintro e wb ⟨rfl, hb⟩; replace HB := Lib.hid (keepB0 hb HB.out); clear hb)
    | (go_at_call 30; refine (web_RootKey_calls _ _).mono ?_; rintro e wb ⟨rfl, hb⟩; replace HB := Lib.hid (keepB0 hb HB.out); clear hb)
    | (go_at_call 31; refine (web_LeafKey_calls _ _ _).mono ?_; rintro e wb ⟨rfl, hb⟩; replace HB := Lib.hid (keepB0 hb HB.out); clear hb))
  have HC1 := Lib.hid (Kd.C_below (keys6_C a b n wb 55 _ rfl) (below_al _ (.cells (cells6 a b n) 55)))
  have HC2 := Lib.hid (keys6_C a b n (wb.alloc (.cells (cells6 a b n) 55)) 55 (wb.heap.size + 1) (by simp))
  have HX := Lib.hid (keepB0 (below_al (wb.alloc (.cells (cells6 a b n) 55)) (.cells (cells6 a b n) 55)) (keepB0 (below_al _ _) HB.out))
  clear HB
  go_loopw [11] (fun v11 wr => ∃ i : Nat, i ≤ 6 ∧ v11 = .int .i64 i ∧ Hid (Below w.heap.size w wr) ∧ Hid (kKey.C wr (some ⟨wb.heap.size, 0, none⟩) 6 (keys6 a b n)) ∧ Hid (kKey.C wr (some ⟨wb.heap.size + 1, 0, none⟩) 6 (keys6 a b n))) (fun v11 _ => 6 - (intOf v11).toNat)
  case atStart => exact ⟨0, by omega, rfl, HX, HC1, HC2⟩
  case round =>
    obtain ⟨i, hi, rfl, HB, HR1, HR2⟩ := hrel
    clear HX HC1 HC2
    by_cases hlt : i < 6
    · have hlt2 : (i : Int) < 6 := by omega
      obtain ⟨ad, e, g0, g1, g2, g3⟩ := at_Key HR1.out (i : Int) (by omega) (by omega)
      cases e
      obtain ⟨bd, e, f0, f1, f2, f3⟩ := at_Key HR2.out (i : Int) (by omega) (by omega)
      cases e
      simp only [Int.toNat_natCast, rd_Key, add_plain] at g0 g1 g2 g3 f0 f1 f2 f3
      cases hy : (keys6 a b n).getD i zKey with
      | mk y0 y1 y2 y3 =>
      rw [hy] at g0 g1 g2 g3 f0 f1 f2 f3
      clear hy
      simp only at g0 g1 g2 g3 f0 f1 f2 f3
      have q := eq_Key (decide_eq_true (Eq.refl (⟨y0, y1, y2, y3⟩ : SKey)))
      go_wp2_with fail
      go_big_quiet (fail)
      go_wp2
      go_roundw
      case rel => exact ⟨i + 1, by omega, by go_num, Lib.hid (pw_below_drewN HB.out _), Lib.hid (Kd.C_below HR1.out (pw_below_drewN (Below.refl _ _) _)), Lib.hid (Kd.C_below HR2.out (pw_below_drewN (Below.refl _ _) _))⟩
      case measure => simp [intOf]; omega
    · have hlt2 : ¬ (i : Int) < 6 := by omega
      have hz : ¬ n.size < 5 → (n.extract (n.size - 5) n.size).size = 5 := fun h => by simp [ByteArray.size_extract]; omega
      have HZ := Lib.hid hz; clear hz
      have h3 : ¬ n.size < 5 → ((n.size : Int) - 5).toNat = n.size - 5 := fun h => by omega
      have H3 := Lib.hid h3; clear h3
      go_wp2_with (first
        | (go_at_call 32; refine (web_EntryID_calls n _ (by omega)).mono ?_; rw [HE.out]; rintro e wc ⟨rfl, hb⟩; replace HB := Lib.hid (keepB0 hb HB.out); clear hb)
        | (go_at_call 33; refine (web_LabelIndex_lit n _ (by omega)).mono ?_; rintro e wd ⟨rfl, rfl⟩)
        | (go_at_call 34; refine (web_ValueIndex_lit n m _ (by omega) (by omega)).mono ?_; rintro e wd ⟨rfl, rfl⟩)
        | (go_at_call 35; refine (ref21_Number_calls (n.extract (n.size - 5) n.size) _ (by rw [HZ.out HL.out]; omega) (by rw [HZ.out HL.out]; omega)).mono ?_; rintro e wd ⟨rfl, rfl⟩))
      go_ret
      exact ⟨rfl, HB.out⟩

set_option maxRecDepth 100000 in
set_option maxHeartbeats 8000000 in
theorem law21_WebKeys_ge (a b : Int) (n m : ByteArray) (w : World) (hn : n.size ≤ 500) (hm : m.size ≤ 500) (hl : ¬n.size<5) :
    Calls Try.prog 5 #[.int .i64 a, .int .i64 b, .agg #[.string n, .string m]] w fun e w' => e = .returned (.bool true) ∧ Below w.heap.size w w' := by
  have HB := Lib.hid (below_al w (.cells #[.string n, .string m] 53))
  have HK := Lib.hid (blk_new w #[.string n, .string m] 53)
  have hl2 : ¬(n.size:Int)<5 := by omega
  have HE := Lib.hid (entryNum_ge hl)
  have HL := Lib.hid hl; clear hl
  have h1 : ¬ (500 : Int) < (n.size : Int) := by omega
  have h2 : ¬ (500 : Int) < (m.size : Int) := by omega
  have p1 : True := trivial
  go_enter Try.func5, Try.ntmps5
  go_wp2_with (go_at_call 15; refine (law21_awake_calls _).mono ?_; rintro e wa ⟨rfl, hb⟩; replace HK := Lib.hid (blk_below hb HK.out); replace HB := Lib.hid (keepB0 hb HB.out); clear hb; have x0 : wa.cell? ⟨w.heap.size, 0, none⟩ = some (.string n) := blk_cell HK.out 0; have x1 : wa.cell? ⟨w.heap.size, 1, none⟩ = some (.string m) := blk_cell HK.out 1)
  go_big_quiet (fail)
  clear x0 x1
  replace HB := Lib.hid (pw_below_drewN HB.out nq)
  go_wp2_with (first
    | (go_at_call 27; refine (web_VertexKey_calls _ _).mono ?_; rintro e wb ⟨rfl, hb⟩; replace HB := Lib.hid (keepB0 hb HB.out); clear hb)
    | (go_at_call 28; refine (web_EdgeKey_calls _ _).mono ?_; rintro e wb ⟨rfl, hb⟩; replace HB := Lib.hid (keepB0 hb HB.out); clear hb)
    | (go_at_call 29; clear p1; refine (web_ChunkKey_calls _ _ true _).mono ?_; rintro e wb ⟨rfl, hb⟩; replace HB := Lib.hid (keepB0 hb HB.out); clear hb)
    | (go_at_call 29; refine (web_ChunkKey_calls _ _ false _).mono ?_; rintro e wb ⟨rfl, hb⟩; replace HB := Lib.hid (keepB0 hb HB.out); clear hb)
    | (go_at_call 30; refine (web_RootKey_calls _ _).mono ?_; rintro e wb ⟨rfl, hb⟩; replace HB := Lib.hid (keepB0 hb HB.out); clear hb)
    | (go_at_call 31; refine (web_LeafKey_calls _ _ _).mono ?_; rintro e wb ⟨rfl, hb⟩; replace HB := Lib.hid (keepB0 hb HB.out); clear hb))
  have HC1 := Lib.hid (Kd.C_below (keys6_C a b n wb 55 _ rfl) (below_al _ (.cells (cells6 a b n) 55)))
  have HC2 := Lib.hid (keys6_C a b n (wb.alloc (.cells (cells6 a b n) 55)) 55 (wb.heap.size + 1) (by simp))
  have HX := Lib.hid (keepB0 (below_al (wb.alloc (.cells (cells6 a b n) 55)) (.cells (cells6 a b n) 55)) (keepB0 (below_al _ _) HB.out))
  clear HB
  go_loopw [11] (fun v11 wr => ∃ i : Nat, i ≤ 6 ∧ v11 = .int .i64 i ∧ Hid (Below w.heap.size w wr) ∧ Hid (kKey.C wr (some ⟨wb.heap.size, 0, none⟩) 6 (keys6 a b n)) ∧ Hid (kKey.C wr (some ⟨wb.heap.size + 1, 0, none⟩) 6 (keys6 a b n))) (fun v11 _ => 6 - (intOf v11).toNat)
  case atStart => exact ⟨0, by omega, rfl, HX, HC1, HC2⟩
  case round =>
    obtain ⟨i, hi, rfl, HB, HR1, HR2⟩ := hrel
    clear HX HC1 HC2
    by_cases hlt : i < 6
    · have hlt2 : (i : Int) < 6 := by omega
      obtain ⟨ad, e, g0, g1, g2, g3⟩ := at_Key HR1.out (i : Int) (by omega) (by omega)
      cases e
      obtain ⟨bd, e, f0, f1, f2, f3⟩ := at_Key HR2.out (i : Int) (by omega) (by omega)
      cases e
      simp only [Int.toNat_natCast, rd_Key, add_plain] at g0 g1 g2 g3 f0 f1 f2 f3
      cases hy : (keys6 a b n).getD i zKey with
      | mk y0 y1 y2 y3 =>
      rw [hy] at g0 g1 g2 g3 f0 f1 f2 f3
      clear hy
      simp only at g0 g1 g2 g3 f0 f1 f2 f3
      have q := eq_Key (decide_eq_true (Eq.refl (⟨y0, y1, y2, y3⟩ : SKey)))
      go_wp2_with fail
      go_big_quiet (fail)
      go_wp2
      go_roundw
      case rel => exact ⟨i + 1, by omega, by go_num, Lib.hid (pw_below_drewN HB.out _), Lib.hid (Kd.C_below HR1.out (pw_below_drewN (Below.refl _ _) _)), Lib.hid (Kd.C_below HR2.out (pw_below_drewN (Below.refl _ _) _))⟩
      case measure => simp [intOf]; omega
    · have hlt2 : ¬ (i : Int) < 6 := by omega
      have hz : ¬ n.size < 5 → (n.extract (n.size - 5) n.size).size = 5 := fun h => by simp [ByteArray.size_extract]; omega
      have HZ := Lib.hid hz; clear hz
      have h3 : ¬ n.size < 5 → ((n.size : Int) - 5).toNat = n.size - 5 := fun h => by omega
      have H3 := Lib.hid h3; clear h3
      go_wp2_with (first
        | (go_at_call 32; refine (web_EntryID_calls n _ (by omega)).mono ?_; rw [HE.out]; rintro e wc ⟨rfl, hb⟩; replace HB := Lib.hid (keepB0 hb HB.out); clear hb)
        | (go_at_call 33; refine (web_LabelIndex_lit n _ (by omega)).mono ?_; rintro e wd ⟨rfl, rfl⟩)
        | (go_at_call 34; refine (web_ValueIndex_lit n m _ (by omega) (by omega)).mono ?_; rintro e wd ⟨rfl, rfl⟩)
        | (go_at_call 35; refine (ref21_Number_calls (n.extract (n.size - 5) n.size) _ (by rw [HZ.out HL.out]; omega) (by rw [HZ.out HL.out]; omega)).mono ?_; rintro e wd ⟨rfl, rfl⟩))
      go_ret
      exact ⟨rfl, HB.out⟩

theorem law21_WebKeys_calls (a b : Int) (n m : ByteArray) (w : World) :
    Calls Try.prog 5 #[.int .i64 a, .int .i64 b, .agg #[.string n, .string m]] w fun e w' => e = .returned (.bool true) ∧ Below w.heap.size w w' := by
  by_cases hn : n.size ≤ 500
  · by_cases hm : m.size ≤ 500
    · by_cases hl : n.size < 5
      · exact law21_WebKeys_lt a b n m w hn hm hl
      · exact law21_WebKeys_ge a b n m w hn hm hl
    · exact law21_WebKeys_no a b n m w (.inr ⟨hn, by omega⟩)
  · exact law21_WebKeys_no a b n m w (.inl (by omega))
end Go.Proofs.Ytonbnlfijmapfaa
