/- cobweblaw21.awake. -/
import Derived.Test.YtonbnlfijmapfaaL16
namespace Go.Proofs.Ytonbnlfijmapfaa
open Go.RowKit Go.Shelf Go.Proofs.YtonbnlfijmapfaaW.PrintWords
set_option linter.unusedVariables false
set_option linter.unusedSimpArgs false

theorem awake_check : checkN ⟨#[97]⟩ [] [7] = 0 := by kernel_rfl
theorem awake_text : vertexText 7 ⟨#[97]⟩ [] = ⟨#[1, 97, 0]⟩ := by kernel_rfl
theorem awake_entries : entries 7 ⟨#[97]⟩ [] = [⟨⟨#[76, 97]⟩, ⟨#[0, 0, 0, 0, 7]⟩⟩] := by kernel_rfl

set_option maxRecDepth 100000 in
set_option maxHeartbeats 2000000 in
theorem law21_awake_calls (w : World) :
    Calls Try.prog 15 #[] w fun e w' => e = .returned (.bool true) ∧ Below w.heap.size w w' := by
  have q1 := eq_Entry (decide_eq_true (Eq.refl (⟨⟨#[76, 97]⟩, ⟨#[0, 0, 0, 0, 7]⟩⟩ : SEntry)))
  have q2 := eq_Key (decide_eq_true (Eq.refl (⟨1, 7, 0, ⟨#[]⟩⟩ : SKey)))
  have hf : fits [] := fun _ h => by simp at h
  have hg : ranged [] := fun _ h => by simp at h
  go_enter Try.func15, Try.ntmps15
  go_wp2_with (first
    | (go_at_call 17; refine (web_VertexText_calls 7 ⟨#[97]⟩ none 0 [] _ (by decide) (Kd.C_nil _ _) hf hg).mono ?_; rw [awake_text, awake_check]; rintro e w1 ⟨rfl, hb1⟩; have K1 : w1.cell? ⟨w.heap.size, 0, none⟩ = some (.int .i64 7) ∧ w1.cell? ⟨w.heap.size, 1, none⟩ = some (.string ⟨#[97]⟩) ∧ w1.cell? ⟨w.heap.size, 2, none⟩ = some (.slice none 0 0) := (fun K => ⟨blk_cell K 0, blk_cell K 1, blk_cell K 2⟩) (blk_below hb1 (blk_new w #[.int .i64 7, .string ⟨#[97]⟩, .slice none 0 0] 24)); obtain ⟨K1, K2, K3⟩ := K1; have HB1 := Lib.hid (keepB0 hb1 (below_al _ _)); clear hb1)
    | (go_at_call 20; refine (web_Entries_calls 7 ⟨#[97]⟩ none 0 [] _ (by decide) (Kd.C_nil _ _) hf hg).mono ?_; rw [awake_entries]; rintro e w2 ⟨v2, rfl, hR2, hb2⟩; have HB2 := Lib.hid (keepB0 hb2 HB1.out); clear hb2; obtain ⟨A2, c2, rfl, -, hC2⟩ := Kd.R_reads hR2; obtain ⟨ad, rfl, g0, g1⟩ := at_Entry hC2 0 (by decide) (by decide); simp only [rd_Entry, Int.toNat_zero, Nat.zero_mul, add_zero_] at g0 g1)
    | (go_at_call 27; refine (web_VertexKey_calls _ _).mono ?_; rintro e w3 ⟨rfl, hb3⟩; have HB3 := Lib.hid (keepB0 hb3 HB2.out); clear hb3))
  go_ret
  exact ⟨rfl, HB3.out⟩
end Go.Proofs.Ytonbnlfijmapfaa
