/- Boxes beside a row that grows: a block's object is kept. No condition. -/
import Derived.Test.YtonbnlfijmapfaaK2
import Derived.Test.YtonbnlfijmapfaaWMore
namespace Go.Proofs.Ytonbnlfijmapfaa
open Go.RowKit Go.Shelf Go.Proofs.YtonbnlfijmapfaaW.PrintWords
set_option linter.unusedVariables false
set_option linter.unusedSimpArgs false

/-- A block and what lies in it. -/
def Blk (w : World) (b : Nat) (cs : Array Value) (t : Nat) : Prop := w.heap[b]? = some (.cells cs t (0, 0))
theorem blk_lt {w : World} {b : Nat} {cs : Array Value} {t : Nat} (h : Blk w b cs t) : b < w.heap.size := by
  rcases Nat.lt_or_ge b w.heap.size with h2 | h2
  · exact h2
  · rw [Blk, Array.getElem?_eq_none h2] at h; cases h
theorem blk_new (w : World) (cs : Array Value) (t : Nat) : Blk (w.alloc (.cells cs t)) w.heap.size cs t := heap_alloc_new w _
theorem blk_below {w w' : World} {b : Nat} {cs : Array Value} {t : Nat} (hb : Below w.heap.size w w') (h : Blk w b cs t) : Blk w' b cs t := (hb.block b (blk_lt h)).trans h
theorem blk_drew {w : World} {b : Nat} {cs : Array Value} {t : Nat} (h : Blk w b cs t) : Blk w.drew b cs t := h
theorem blk_alloc {w : World} {b : Nat} {cs : Array Value} {t : Nat} (h : Blk w b cs t) (o : Obj) : Blk (w.alloc o) b cs t := blk_below (below_al w o) h
theorem blk_cell {w : World} {b : Nat} {cs : Array Value} {t : Nat} (h : Blk w b cs t) (o : Nat) : w.cell? ⟨b, o, none⟩ = cs[o]? := cell_of_row w b o cs t (0, 0) h
theorem blk_grown {w w' : World} {b : Nat} {cs : Array Value} {t : Nat} (h : Blk w b cs t) {α : Type} {d : Kd α} {T base : Nat} {ok : Nat → Prop} {v : Value} {xs : List α} (hR : d.R T w base ok v xs) (hg : w.grownBy w' v.ownBlock) (hT : t ≠ T) : Blk w' b cs t := by
  refine (hg.block b (blk_lt h) (fun e => ?_)).trans h
  obtain ⟨inner, ho⟩ := Kd.R_own hR
  obtain ⟨cells, hc⟩ := own_typed ho b e.symm
  rw [Blk, hc] at h
  injection h with h; injection h with _ h; exact hT h.symm
theorem C_boxesg {W : World} {T g : Nat} (hg : g = W.heap.size) (xs : List Int) (k : IntKind) (hm : xs.length ≤ 9223372036854775807) : (Kd.int k).C (W.alloc (.cells (encs (Value.int k) xs).toArray T)) (some ⟨g, 0, none⟩) xs.length xs := by
  subst hg; exact C_boxes xs k hm
theorem R_beside {α β : Type} {d : Kd α} {d' : Kd β} {W w' : World} {T T' base base' : Nat} {ok ok' : Nat → Prop} {v v' : Value} {xs : List α} {ys : List β} (h : d.R T W base ok v xs) (hE : d.E = []) (hR : d'.R T' W base' ok' v' ys) (hg : W.grownBy w' v'.ownBlock) (hT : T ≠ T') : d.R T w' base ok v xs := by
  refine Kd.R_grown2 h hE hg (fun k hk e => ?_)
  obtain ⟨i1, h1⟩ := Kd.R_own h
  obtain ⟨i2, h2⟩ := Kd.R_own hR
  obtain ⟨c1, e1⟩ := own_typed h1 k e.symm
  obtain ⟨c2, e2⟩ := own_typed h2 k hk
  rw [e1] at e2; injection e2 with e2; injection e2 with _ e2; exact hT e2
/-- A row's literal. -/
theorem R_lits {α : Type} (d : Kd α) {W : World} {base T : Nat} (xs : List α) (cs : Array Value) (hrep : Reps (d.M W base (fun _ => True)) d.sz xs cs.toList) (hb : base ≤ W.heap.size) (hm : xs.length ≤ 9223372036854775807) : d.R T (W.alloc (.cells cs T)) base (fun _ => True) (.slice (some ⟨W.heap.size, 0, none⟩) xs.length xs.length) xs := by
  refine ⟨fun _ _ => trivial, cs.toList, ?_, ?_⟩
  · have h2 := World.ownsRow_lit (base := base) (e := T) (size := d.sz) W cs xs.length hb (by simpa [maxLen] using hm) (by simpa using hrep.1)
    simpa using h2
  · refine hrep.imp_ (fun p c hp => d.M_mono (fun k hk => ⟨trivial, fun he => ?_⟩) (Kd.M_below (d.M_bound hp) (below_al _ _)))
    have h3 : k = W.heap.size := by simpa [Value.ownBlock] using he
    have := hk.2.2.1
    omega
theorem R_boxd {α : Type} (d : Kd α) {W : World} {base T : Nat} (x : α) (cs : Array Value) (hM : d.M W base (fun _ => True) x cs.toList) (hb : base ≤ W.heap.size) : d.R T (W.alloc (.cells cs T)) base (fun _ => True) (.slice (some ⟨W.heap.size, 0, none⟩) 1 1) [x] := by
  have hl := d.K_len (d.K_of_M hM)
  refine R_lits d [x] cs ⟨by simpa using hl, fun j p hj => ?_⟩ hb (by simp)
  obtain ⟨rfl, rfl⟩ : j = 0 ∧ p = x := by
    cases j with
    | zero => exact ⟨rfl, by simpa using hj.symm⟩
    | succ j => simp at hj
  rw [Nat.zero_mul, List.drop_zero, List.take_of_length_le (by omega)]; exact hM
theorem info_Entry : (Try.prog.info? 39).map (fun i => (i.zero, i.size, i.bytes)) = some (some (.agg #[.string ⟨#[]⟩, .string ⟨#[]⟩]), 2, 32) := by kernel_rfl
end Go.Proofs.Ytonbnlfijmapfaa
