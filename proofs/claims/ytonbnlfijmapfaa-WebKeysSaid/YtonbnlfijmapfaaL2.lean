/- The reference's Runes, Right, Compare. No condition but on sizes. -/
import Derived.Test.YtonbnlfijmapfaaL1
namespace Go.Proofs.Ytonbnlfijmapfaa
open Go.RowKit Go.Shelf Go.Proofs.YtonbnlfijmapfaaW.PrintWords
set_option linter.unusedVariables false
set_option linter.unusedSimpArgs false

set_option maxHeartbeats 1000000 in
set_option maxRecDepth 100000 in
theorem ref01_Runes_calls (s : ByteArray) (w : World) (hs : s.size ≤ 100000) :
    Calls Try.prog 102 #[.string s] w fun e w' => (∃ v, e = .returned v ∧ (Kd.int .i32).R 21 w' w.heap.size (fun _ => True) v (runes s)) ∧ Below w.heap.size w w' := by
  go_enter Try.func102, Try.ntmps102
  go_wp2
  go_loopw [3] (fun v wr => ∃ (pos b : Nat) (acc : List Int), wr.heap[w.heap.size]? = some (.stringIter s pos) ∧ (Kd.int .i32).R 21 wr (w.heap.size + 1) (fun _ => True) v acc ∧ Below w.heap.size w wr ∧ Aside0 (acc ++ runesFrom s b pos = runes s) ∧ s.size ≤ pos + b ∧ acc.length ≤ pos ∧ w.heap.size + 1 ≤ wr.heap.size) (fun _ wr => s.size - wr.iterPos w.heap.size)
  case atStart => exact ⟨0, s.size, [], World.iter_heap w s 0, Kd.R_nil _ _ _ _ _, (Below.refl _ _).alloc (Nat.le_refl _) _, ⟨rfl⟩, by omega, Nat.le_refl _, by simp [World.iter]⟩
  case round =>
    obtain ⟨pos, b, acc, hk, hR, hB, hc, hb, ha, hsz⟩ := hrel
    by_cases hp : pos < s.size
    · have hnx : ∀ ty, (Instr.next (.pointer (some ⟨w.heap.size, 0, none⟩)) true ty).run Try.prog wr = _ := fun ty => Lib.run_next_any_at wr w.heap.size s pos ty hk hp
      have hwd := Lib.decode_width_pos s pos hp
      obtain ⟨b, rfl⟩ : ∃ b', b = b' + 1 := ⟨b - 1, by omega⟩
      have HC := Lib.hid hc; clear hc
      have HK := Lib.hid hk; clear hk
      have HR := Lib.hid (R_iterAt hR (Nat.lt_succ_self _) s (pos + (Utf8.decode s pos).2)); clear hR
      have HB := Lib.hid (Lib.below_iterAt hB (Nat.le_refl _) s (pos + (Utf8.decode s pos).2)); clear hB
      have HZ := Lib.hid (Lib.iterAt_heap wr w.heap.size s pos (pos + (Utf8.decode s pos).2) HK.out)
      have hS : w.heap.size + 1 ≤ (wr.iterAt w.heap.size s (pos + (Utf8.decode s pos).2)).heap.size := by rw [Lib.iterAt_size]; exact hsz
      go_wp2_with (at_builtin; refine app_one HR.out info_i32 Try.underlying159 (M_int _) (fun _ _ => trivial) hS ?aL rfl (by decide) (by decide) rfl rfl rfl rfl ?_; (case aL => omega); intro v1 w1 hR1 hb1 hg1 hat1)
      go_roundw
      case rel =>
        refine ⟨pos + (Utf8.decode s pos).2, b, acc ++ [((Utf8.decode s pos).1 : Int)], (hb1.block _ (Nat.lt_succ_self _)).trans HZ.out, hR1, HB.out.trans (below_down hb1 (Nat.le_succ _)), ⟨?_⟩, by omega, by rw [List.length_append, List.length_singleton]; omega, Nat.le_trans hS hb1.size⟩
        have := HC.out.out
        rw [runesFrom, if_pos hp] at this
        rw [← this]; simp
      case measure => rw [iterPos_of ((hb1.block _ (Nat.lt_succ_self _)).trans HZ.out), iterPos_of HK.out]; omega
    · have hnx : ∀ ty, (Instr.next (.pointer (some ⟨w.heap.size, 0, none⟩)) true ty).run Try.prog wr = _ := fun ty => Lib.run_next_end_at wr w.heap.size s pos ty hk hp
      have HC := Lib.hid hc; clear hc
      have HR := Lib.hid hR; clear hR
      clear hk
      go_wp2
      go_ret
      have := HC.out.out
      rw [runesFrom_end s b pos hp, List.append_nil] at this
      subst this
      exact ⟨⟨_, rfl, Kd.R_lower HR.out (Nat.le_succ _)⟩, hB⟩
end Go.Proofs.Ytonbnlfijmapfaa
