/- Appends onto a row of the call's own, at the operation itself: one element, a row, a text. No condition but on sizes. -/
import Derived.Test.YtonbnlfijmapfaaK1
namespace Go.Proofs.Ytonbnlfijmapfaa
open Go.RowKit Go.Shelf Go.Proofs.YtonbnlfijmapfaaW.PrintWords
set_option linter.unusedVariables false
set_option linter.unusedSimpArgs false

section
variable {P : Program} {α : Type} {enc : α → Value} {h1 : ∀ x : α, (enc x).oneCell' = true}
/-- The run of 'append(v, ys...)', ys a row of scalars that is read. -/
theorem run_app_row {t ty e : TypeId} {z : Value} {bytes base : Nat} {W : World} {ok : Nat → Prop} {v : Value} {xs ys : List α} (HO : (Kd.scalar enc h1).R e W base ok v xs) {A : Option Addr} {m c : Nat} (HR : (Kd.scalar enc h1).C W A m ys)
    (ht : P.underlying t = some (.slice e)) (hinfo : (P.info? e).map (fun i => (i.zero, i.size, i.bytes)) = some (some z, 1, bytes)) (hz : z.cells.size = 1) (hb0 : 0 < bytes)
    (hfresh : ∀ k, W.heap.size ≤ k → ok k) (hbase : base ≤ W.heap.size) (hl : (xs.length + m) * bytes ≤ 140737488355328) :
    ∃ v1 w1, (Builtin.append_ #[t, t] ty #[v, .slice A m c]).run P W = .ok v1 w1 ∧ (Kd.scalar enc h1).R e w1 base ok v1 (xs ++ ys) ∧ Below base W w1 ∧ W.grownBy w1 v.ownBlock ∧ (v1.ownBlock = v.ownBlock ∨ ∃ b, v1.ownBlock = some b ∧ W.heap.size ≤ b) := by
  obtain ⟨i0, hi, hzz⟩ := Option.map_eq_some_iff.1 hinfo
  simp only [Prod.mk.injEq] at hzz
  obtain ⟨hz0, hz1, hz2⟩ := hzz
  have hm : ys.length = m := HR.1
  have hlen : xs.length + m ≤ 140737488355328 := Nat.le_trans (Nat.le_mul_of_pos_right _ hb0) hl
  have HW := Kd.own_of_R HO
  have fin : ∀ v1 w1, (Builtin.append_ #[t, t] ty #[v, .slice A m c]).run P W = .ok v1 w1 → w1.ownsRow base e 1 v1 (xs ++ ys).length (encs enc (xs ++ ys)) → W.grownBy w1 v.ownBlock → (v1.ownBlock = v.ownBlock ∨ v1.ownBlock = some W.heap.size) →
      ∃ v1 w1, (Builtin.append_ #[t, t] ty #[v, .slice A m c]).run P W = .ok v1 w1 ∧ (Kd.scalar enc h1).R e w1 base ok v1 (xs ++ ys) ∧ Below base W w1 ∧ W.grownBy w1 v.ownBlock ∧ (v1.ownBlock = v.ownBlock ∨ ∃ b, v1.ownBlock = some b ∧ W.heap.size ≤ b) := by
    intro v1 w1 hr hown hg hat
    refine ⟨v1, w1, hr, Kd.R_of_own hown (fun k hk => ?_), (Below.refl base W).grown hg hbase (own_base HW), hg, hat.imp id (fun h => ⟨_, h, Nat.le_refl _⟩)⟩
    rcases hat with e1 | e1
    · exact HO.1 k (by rw [← e1]; exact hk)
    · rw [e1] at hk; injection hk with hk; subst hk; exact hfresh _ (Nat.le_refl _)
  rcases A with _ | ad
  · have h0 : m = 0 := by
      rcases Nat.eq_zero_or_pos m with h0 | h0
      · exact h0
      · obtain ⟨ad, h, _⟩ := HR.2.2 h0; cases h
    subst h0
    obtain rfl : ys = [] := List.eq_nil_of_length_eq_zero hm
    refine fin v W ?_ (by simpa using HW) (World.grownBy.refl W _) (.inl rfl)
    rcases HW.2 with ⟨rfl, hn⟩ | ⟨g, cap, cur, rfl, _, _, hnc, _⟩
    · simp [Builtin.append_, run_underlying ht, sizeOf, typeInfo, hi, Builtin.lenOf, Builtin.firstCells]
    · simp [Builtin.append_, run_underlying ht, sizeOf, typeInfo, hi, Builtin.lenOf, Builtin.firstCells, hnc, storeCells]
  · have hcells : ∀ j u, (encs enc ys)[j]? = some u → W.cell? (ad.add j) = some u := by
      intro j u hu
      have hj : j < ys.length := by
        rcases Nat.lt_or_ge j ys.length with h | h
        · exact h
        · rw [List.getElem?_eq_none (by rw [encs_length]; omega)] at hu; cases hu
      obtain ⟨ad', e1, hc⟩ := (Kd.reads_of_C (d := ys[j]) HR).2.2 (by omega)
      injection e1 with e1
      subst e1
      rw [hc j (by omega)]
      rw [← hu, encs_get (d := ys[j]) ys j hj]
    obtain ⟨v1, w1, hr, hown, hg, _, hat⟩ := run_append_own_at (P := P) W base t ty e i0 z 1 bytes ht hi hz0 hz1 hz2 hz (by omega) v xs.length (encs enc xs) HW ad m c (encs enc ys) (by rw [encs_length]; omega) hcells (by
      intro u hu; simp only [encs, List.mem_map] at hu; obtain ⟨y, _, rfl⟩ := hu; exact h1 y) (by simp only [maxLen]; omega) hl hbase
    exact fin v1 w1 hr (by rw [encs_append, List.length_append, hm]; exact hown) hg hat

theorem run_app_str {t u ty e : TypeId} {base : Nat} {W : World} {v : Value} {xs : List Int} (HO : (Kd.int .u8).R e W base (fun _ => True) v xs) (y : ByteArray)
    (ht : P.underlying t = some (.slice e)) (hu : P.underlying u = some .string) (hinfo : (P.info? e).map (fun i => (i.zero, i.size, i.bytes)) = some (some (.int .u8 0), 1, 1)) (hbase : base ≤ W.heap.size) (hl : xs.length + y.size ≤ 140737488355328) :
    ∃ v1 w1, (Builtin.append_ #[t, u] ty #[v, .string y]).run P W = .ok v1 w1 ∧ (Kd.int .u8).R e w1 base (fun _ => True) v1 (xs ++ bytesOf y) ∧ Below base W w1 ∧ W.grownBy w1 v.ownBlock := by
  obtain ⟨i0, hi, hzz⟩ := Option.map_eq_some_iff.1 hinfo
  simp only [Prod.mk.injEq] at hzz
  obtain ⟨hz0, hz1, hz2⟩ := hzz
  have HW := Kd.own_of_R HO
  obtain ⟨v1, w1, hr, hown, hg, _⟩ := Lib.run_append_own_string (P := P) W base t u ty e i0 ht hu hi hz0 hz1 hz2 v xs.length _ HW y (by simp only [maxLen]; omega) hl hbase
  refine ⟨v1, w1, hr, Kd.R_of_own (by
    have hl2 : (xs ++ bytesOf y).length = xs.length + y.size := by rw [List.length_append, bytesOf_length]
    rw [hl2, encs_append]
    have : encs (Value.int .u8) (bytesOf y) = Lib.strCells y := by simp [encs, bytesOf, Lib.strCells]
    rw [this]; exact hown) (fun _ _ => trivial), (Below.refl base W).grown hg hbase (own_base HW), hg⟩

/-- The run of 'append(v, x)', x in its box. -/
theorem run_app_one {d : Kd α} {base e : Nat} {W : World} {ok : Nat → Prop} {v : Value} {xs : List α} (HO : d.R e W base ok v xs) {z : Value} {bytes : Nat}
    (hinfo : (P.info? e).map (fun i => (i.zero, i.size, i.bytes)) = some (some z, d.sz, bytes)) {t ty : TypeId} (ht : P.underlying t = some (.slice e)) {p : α} {cs : List Value}
    (hp : d.M W base (fun k => ok k ∧ some k ≠ v.ownBlock) p cs) (hfresh : ∀ k, W.heap.size ≤ k → ok k) (hbase : base ≤ W.heap.size) (hl : (xs.length + 1) * bytes ≤ 140737488355328)
    (hz : z.cells.size = d.sz) (hs0 : 0 < d.sz) (hb0 : 0 < bytes) :
    ∃ v1 w1, (Builtin.append_ #[t, t] ty #[v, .slice (some ⟨W.heap.size, 0, none⟩) 1 1]).run P (W.alloc (.cells cs.toArray e)) = .ok v1 w1 ∧ d.R e w1 base ok v1 (xs ++ [p]) ∧ Below base W w1 ∧ W.grownBy w1 v.ownBlock ∧ (v1.ownBlock = v.ownBlock ∨ ∃ b, v1.ownBlock = some b ∧ W.heap.size ≤ b) := by
  obtain ⟨i0, hi, hzz⟩ := Option.map_eq_some_iff.1 hinfo
  simp only [Prod.mk.injEq] at hzz
  obtain ⟨hz0, hz1, hz2⟩ := hzz
  have hlen : xs.length + 1 ≤ 140737488355328 := Nat.le_trans (Nat.le_mul_of_pos_right _ hb0) hl
  obtain ⟨h0, inner, hown, hr⟩ := HO
  have hys : cs.length = d.sz := d.K_len (d.K_of_M hp)
  obtain ⟨v1, w1, hr1, hown1, hg, _, hat⟩ := run_append_own_at (P := P) (W.alloc (.cells cs.toArray e)) base t ty e i0 z d.sz bytes ht hi hz0 hz1 hz2 hz hs0 v xs.length inner (hown.alloc _) ⟨W.heap.size, 0, none⟩ 1 1 cs (by rw [hys]; simp)
    (by simpa using World.news_of_block (cs := cs.toArray) (t := e) (fr := (0, 0)) (heap_alloc_new W (.cells cs.toArray e))) (d.K_one (d.K_of_M hp)) (by simp only [maxLen]; omega) hl (by simp; omega)
  have hat' : v1.ownBlock = v.ownBlock ∨ ∃ b, v1.ownBlock = some b ∧ W.heap.size ≤ b := by
    rcases hat with hat | hat
    · exact .inl hat
    · exact .inr ⟨_, hat, by simp⟩
  have hg' := World.grownBy.trans (World.grownBy_alloc W _ _) hg
  exact ⟨v1, w1, hr1, Kd.R_appended h0 hr hp (fun _ hk => hk) hfresh hown1 hg' hat', ((Below.refl base W).alloc hbase _).grown hg (by simp; omega) (own_base hown), hg', hat'⟩
end

section
variable {P : Program} {ops : Array Oper} {rest : List Oper} {o : Oper} {a : Act} {Q : Exit → Act → World → Prop} {K : Act → World → Prop}
/-- An append whose run is known, at the operation. -/
theorem wp_app {s x : Operand} {t u : TypeId} {v y : Value} {W w1 : World} {v1 : Value} (ho : o.op = .call { callee := .builtin .append, args := #[s, x], argTypes := #[t, u] }) (hs : a.eval s = v) (hx : a.eval x = y)
    (hr : (Builtin.append_ #[t, u] o.type #[v, y]).run P W = .ok v1 w1) (h : K (a.put o.dst v1) w1) : o.wp P a W K Q := by
  unfold Oper.wp execOp
  simp only [ho, resolve, invoke, builtin, Sem.run_bind, Sem.run_pure, Result.andThen_ok, List.map_toArray, List.map_cons, List.map_nil, hs, hx, hr]
  exact h
theorem list_app {s x : Operand} {t u : TypeId} {v y : Value} {W w1 : World} {v1 : Value} (hgd : o.guard = none) (ho : o.op = .call { callee := .builtin .append, args := #[s, x], argTypes := #[t, u] }) (hs : a.eval s = v) (hx : a.eval x = y)
    (hr : (Builtin.append_ #[t, u] o.type #[v, y]).run P W = .ok v1 w1) (h : wpList P ops Q rest (a.put o.dst v1) w1) : wpList P ops Q (o :: rest) a W :=
  wpList_plain hgd fun _ hK => wp_app ho hs hx hr (hK _ _ h)
theorem step_app {s x : Operand} {t u : TypeId} {v y : Value} {W w1 : World} {v1 : Value} (hw : Region.wanted o (yielded ops a.tmps) = true) (ho : o.op = .call { callee := .builtin .append, args := #[s, x], argTypes := #[t, u] }) (hs : a.eval s = v) (hx : a.eval x = y)
    (hr : (Builtin.append_ #[t, u] o.type #[v, y]).run P W = .ok v1 w1) (h : K (a.put o.dst v1) w1) :
    if Region.wanted o (yielded ops a.tmps) = true then Oper.wp P o a W K Q else K (a.put o.dst undef) W := by
  rw [if_pos hw]; exact wp_app ho hs hx hr h
end
theorem R_box1 {W : World} {base : Nat} {T : Nat} (x : Int) (k : IntKind) (hb : base ≤ W.heap.size) : (Kd.int k).R T (W.alloc (.cells #[.int k x] T)) base (fun _ => True) (.slice (some ⟨W.heap.size, 0, none⟩) 1 1) [x] :=
  Kd.R_of_own (own_lit_of (enc := Value.int k) W base T [x] hb (by simp)) (fun _ _ => trivial)
theorem R_boxes {W : World} {base : Nat} {T : Nat} (xs : List Int) (k : IntKind) (hb : base ≤ W.heap.size) (hm : xs.length ≤ 9223372036854775807) : (Kd.int k).R T (W.alloc (.cells (encs (Value.int k) xs).toArray T)) base (fun _ => True) (.slice (some ⟨W.heap.size, 0, none⟩) xs.length xs.length) xs :=
  Kd.R_of_own (own_lit_of (enc := Value.int k) W base T xs hb hm) (fun _ _ => trivial)
theorem C_boxes {W : World} {T : Nat} (xs : List Int) (k : IntKind) (hm : xs.length ≤ 9223372036854775807) : (Kd.int k).C (W.alloc (.cells (encs (Value.int k) xs).toArray T)) (some ⟨W.heap.size, 0, none⟩) xs.length xs :=
  (Kd.R_reads' (R_boxes (base := W.heap.size) (T := T) xs k (Nat.le_refl _) hm)).2.2
end Go.Proofs.Ytonbnlfijmapfaa
