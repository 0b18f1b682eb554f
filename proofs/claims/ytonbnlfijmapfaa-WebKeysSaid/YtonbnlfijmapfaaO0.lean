/- What came in, opened: from the way a datum reads to the kinds of rows. No condition. -/
import Derived.Test.YtonbnlfijmapfaaK0
import Derived.ProofKit
import Derived.Deep.Slices
namespace Go.Proofs.Ytonbnlfijmapfaa
open Go.RowKit Go.Proofs.YtonbnlfijmapfaaW.PrintWords
set_option linter.unusedVariables false
set_option linter.unusedSimpArgs false

/-- A datum of type T reads as one of the kind d, with g. -/
def Opens {α : Type} (d : Kd α) (T : TypeId) (g : α → Prop) : Prop :=
  ∀ {H : Type} (enc : TypeId × Value → H) (w : World) (sp : Nat → Bool) (held : Bool) (fuel : Nat) (cs : List Value) (x : DataW H × List MemPlace), DataW.trod enc Try.prog w 0 sp held fuel T cs = some x → ∃ a, d.K w a cs ∧ g a

theorem opens_int {T : TypeId} {k : IntKind} (ht : Try.prog.underlying T = some (.int k)) : Opens (Kd.int k) T (fun n => (Lit.int k n).wf = true) := by
  intro H enc w sp held fuel cs x h
  obtain ⟨n, rfl, _, hw⟩ := DataW.trod_int ht h
  exact ⟨n, rfl, hw⟩
theorem opens_string {T : TypeId} (ht : Try.prog.underlying T = some .string) : Opens Kd.string T (fun s => s.size ≤ maxLen) := by
  intro H enc w sp held fuel cs x h
  obtain ⟨s, rfl, _, hw⟩ := DataW.trod_string ht h
  exact ⟨s, rfl, hw⟩
theorem cells_each {w : World} {base : Nat} {a : Addr} {n : Nat} {cs : List Value} (h : w.cells? base a n = some cs) : cs.length = n ∧ ∀ i u, cs[i]? = some u → w.cell? (a.add i) = some u := by
  unfold World.cells? at h
  split at h
  · have hl := mapM_some_length h
    rw [List.length_range] at hl
    refine ⟨hl, fun i u hu => ?_⟩
    have hi : i < n := by
      rcases Nat.lt_or_ge i cs.length with h2 | h2
      · omega
      · rw [List.getElem?_eq_none h2] at hu; cases hu
    rw [mapM_some_get h i i (by simp [hi])]; exact hu
  · cases h
theorem add_add_ (ad : Addr) (i j : Nat) : (ad.add i).add j = ad.add (i + j) := by
  unfold Addr.add
  by_cases hi : i = 0 <;> by_cases hj : j = 0 <;> simp [hi, hj, Nat.add_assoc]
theorem opens_slice {α : Type} [Inhabited α] {d : Kd α} {T e : TypeId} {g : α → Prop} (ht : Try.prog.underlying T = some (.slice e)) (hc : Try.prog.cellsOf e = d.sz) (ho : Opens d e g) : Opens (Kd.slice e d) T (fun l => ∀ x ∈ l, g x) := by
  intro H enc w sp held fuel cs x h
  rcases DataW.trod_slice ht h with ⟨rfl, _⟩ | ⟨a, len, cap, elems, rest, n, _, rfl, _, _, hl, hm, hlen, hel, _, _⟩
  · exact ⟨[], ⟨none, 0, rfl, Nat.le_refl _, Kd.C_nil _ _⟩, fun x hx => by simp at hx⟩
  · have key : ∀ i, i < len → ∃ y cs', w.cells? 0 (a.add (i * Try.prog.cellsOf e)) (Try.prog.cellsOf e) = some cs' ∧ d.K w y cs' ∧ g y := by
      intro i hi
      have := hel i hi
      rw [List.getElem?_eq_getElem (by omega)] at this
      obtain ⟨cs', h1, h2⟩ := Option.bind_eq_some_iff.1 this
      obtain ⟨y, hk, hg⟩ := ho enc w sp held n cs' _ h2
      exact ⟨y, cs', h1, hk, hg⟩
    obtain ⟨f, hf⟩ := Go.Deep.choose_lt key
    have hlr : ((List.range len).map f).length = len := by simp
    refine ⟨(List.range len).map f, ⟨some a, cap, by rw [hlr], by rw [hlr]; exact hl, ?_⟩, fun x hx => ?_⟩
    · rw [hlr]
      refine ⟨hlr, by simp only [maxLen] at hm; omega, fun _ => ⟨a, rfl, fun j p hj => ?_⟩⟩
      have hjl : j < len := by
        rcases Nat.lt_or_ge j len with h2 | h2
        · exact h2
        · rw [List.getElem?_eq_none (by rw [hlr]; exact h2)] at hj; cases hj
      obtain rfl : p = f j := by simp [hjl] at hj; exact hj.symm
      obtain ⟨cs', h1, h2, h3⟩ := hf j hjl
      rw [hc] at h1
      obtain ⟨e1, e2⟩ := cells_each h1
      exact ⟨cs', e1, h2, fun i u hu => by rw [← add_add_]; exact e2 i u hu⟩
    · simp only [List.mem_map, List.mem_range] at hx
      obtain ⟨j, hj, rfl⟩ := hx
      obtain ⟨_, _, _, h3⟩ := hf j hj
      exact h3
instance : Inhabited SPrp := ⟨zPrp⟩
instance : Inhabited SVert := ⟨zVert⟩
instance : Inhabited SEdg := ⟨zEdg⟩

theorem len2 {α : Type} {l : List α} (h : l.length = 2) : ∃ a b, l = [a, b] := by
  match l, h with
  | [a, b], _ => exact ⟨a, b, rfl⟩
theorem len3 {α : Type} {l : List α} (h : l.length = 3) : ∃ a b c, l = [a, b, c] := by
  match l, h with
  | [a, b, c], _ => exact ⟨a, b, c, rfl⟩
theorem len4 {α : Type} {l : List α} (h : l.length = 4) : ∃ a b c d, l = [a, b, c, d] := by
  match l, h with
  | [a, b, c, d], _ => exact ⟨a, b, c, d, rfl⟩
theorem len5 {α : Type} {l : List α} (h : l.length = 5) : ∃ a b c d e, l = [a, b, c, d, e] := by
  match l, h with
  | [a, b, c, d, e], _ => exact ⟨a, b, c, d, e, rfl⟩
theorem co_int : Try.prog.cellsOf 3 = 1 := by kernel_rfl
theorem co_string : Try.prog.cellsOf 9 = 1 := by kernel_rfl
theorem co_Value : Try.prog.cellsOf 42 = 3 := by kernel_rfl
theorem co_Prp : Try.prog.cellsOf 117 = 4 := by kernel_rfl
theorem co_slPrp : Try.prog.cellsOf 22 = 1 := by kernel_rfl
theorem co_Vert : Try.prog.cellsOf 24 = 3 := by kernel_rfl
theorem co_Edg : Try.prog.cellsOf 35 = 5 := by kernel_rfl
theorem opens_Value : Opens kValue 42 (fun v => (Lit.int .i64 v.f0).wf = true ∧ (Lit.int .i64 v.f1).wf = true ∧ v.f2.size ≤ maxLen) := by
  intro H enc w sp held fuel cs x h
  obtain ⟨xs, n, _, _, hl, hn, hx⟩ := DataW.trod_struct Try.underlying42 h
  have hl3 : cs.length = 3 := hl.trans co_Value
  have hn3 : xs.length = 3 := hn
  obtain ⟨c0, c1, c2, rfl⟩ := len3 hl3
  obtain ⟨x0, x1, x2, rfl⟩ := len3 hn3
  clear hl hn hl3 hn3 h
  obtain ⟨a0, k0, g0⟩ := opens_int Try.underlying3 enc w sp held n [c0] x0 (by have h := hx 0 _ rfl; simp [co_int, co_string, co_Value, co_Prp, co_slPrp] at h; exact h)
  obtain ⟨a1, k1, g1⟩ := opens_int Try.underlying3 enc w sp held n [c1] x1 (by have h := hx 1 _ rfl; simp [co_int, co_string, co_Value, co_Prp, co_slPrp] at h; exact h)
  obtain ⟨a2, k2, g2⟩ := opens_string Try.underlying9 enc w sp held n [c2] x2 (by have h := hx 2 _ rfl; simp [co_int, co_string, co_Value, co_Prp, co_slPrp] at h; exact h)
  cases k0; cases k1; cases k2
  exact ⟨⟨a0, a1, a2⟩, kValue_mk _ _, g0, g1, g2⟩
theorem opens_Prp : Opens kPrp 117 (fun p => p.f0.size ≤ maxLen ∧ (Lit.int .i64 p.f1.f0).wf = true ∧ (Lit.int .i64 p.f1.f1).wf = true ∧ p.f1.f2.size ≤ maxLen) := by
  intro H enc w sp held fuel cs x h
  obtain ⟨xs, n, _, _, hl, hn, hx⟩ := DataW.trod_struct Try.underlying117 h
  have hl3 : cs.length = 4 := hl.trans co_Prp
  have hn3 : xs.length = 2 := hn
  obtain ⟨c0, c1, c2, c3, rfl⟩ := len4 hl3
  obtain ⟨x0, x1, rfl⟩ := len2 hn3
  clear hl hn hl3 hn3 h
  obtain ⟨a0, k0, g0⟩ := opens_string Try.underlying9 enc w sp held n [c0] x0 (by have h := hx 0 _ rfl; simp [co_int, co_string, co_Value, co_Prp, co_slPrp] at h; exact h)
  obtain ⟨a1, k1, g1⟩ := opens_Value enc w sp held n [c1, c2, c3] x1 (by have h := hx 1 _ rfl; simp [co_int, co_string, co_Value, co_Prp, co_slPrp] at h; exact h)
  cases k0
  have e := kValue_open k1
  simp only [List.cons.injEq, and_true] at e
  obtain ⟨rfl, rfl, rfl⟩ := e
  exact ⟨⟨a0, a1⟩, kPrp_mk _ _, g0, g1⟩
theorem opens_Vert : Opens kVert 24 (fun v => (Lit.int .i64 v.f0).wf = true ∧ v.f1.size ≤ maxLen ∧ ∀ p ∈ v.f2, p.f0.size ≤ maxLen ∧ (Lit.int .i64 p.f1.f0).wf = true ∧ (Lit.int .i64 p.f1.f1).wf = true ∧ p.f1.f2.size ≤ maxLen) := by
  intro H enc w sp held fuel cs x h
  obtain ⟨xs, n, _, _, hl, hn, hx⟩ := DataW.trod_struct Try.underlying24 h
  have hl3 : cs.length = 3 := hl.trans co_Vert
  have hn3 : xs.length = 3 := hn
  obtain ⟨c0, c1, c2, rfl⟩ := len3 hl3
  obtain ⟨x0, x1, x2, rfl⟩ := len3 hn3
  clear hl hn hl3 hn3 h
  obtain ⟨a0, k0, g0⟩ := opens_int Try.underlying3 enc w sp held n [c0] x0 (by have h := hx 0 _ rfl; simp [co_int, co_string, co_Value, co_Prp, co_slPrp] at h; exact h)
  obtain ⟨a1, k1, g1⟩ := opens_string Try.underlying9 enc w sp held n [c1] x1 (by have h := hx 1 _ rfl; simp [co_int, co_string, co_Value, co_Prp, co_slPrp] at h; exact h)
  obtain ⟨a2, ⟨A2, d2, k2, l2, r2⟩, g2⟩ := opens_slice Try.underlying22 (d := kPrp) co_Prp opens_Prp enc w sp held n [c2] x2 (by have h := hx 2 _ rfl; simp [co_int, co_string, co_Value, co_Prp, co_slPrp] at h; exact h)
  cases k0; cases k1; cases k2
  exact ⟨⟨a0, a1, a2⟩, kVert_mk _ _ l2 r2, g0, g1, g2⟩
end Go.Proofs.Ytonbnlfijmapfaa
