/- Texts of this proof, joined: M0, M1, K0, K1, K2, K3, K4, M2, M3, M4, E0, M5, L1, L2, L3, L4. No condition. -/
import Derived.Maps.OwnSet
import Derived.Maps.RangeWalk
import Derived.WalkKit
import Derived.Test.YtonbnlfijmapfaaProg
import Derived.Test.YtonbnlfijmapfaaWWords
import Derived.KernelRfl
import Derived.WalkSpells
import Derived.WalkLawsBesides
import Derived.Deep.QuietTactic
import Derived.BigQuiet
import Derived.Deep.RegionHeld3
import Derived.Lib.Hide
import Derived.Lib.OthersKept
import Derived.Shelf.Abstract
import Derived.Test.YtonbnlfijmapfaaWMore
import Derived.Test.YtonbnlfijmapfaaWEqStruct
import Derived.Laws.Strings
import Derived.Laws.RangeAny
import Derived.Lib.RuneCount
import Derived.Laws.IdiomStrings
/- Maps at keys of int, whatever their elements: as lists by rising keys. No condition. -/
namespace Go.Proofs.Ytonbnlfijmapfaa
set_option linter.unusedVariables false
open Go Go.RowKit Go.ChangeMaps Go.MapKept
open Go.WideElems (Fit rd rg pl rd_val elemAt)
open Go.Maps (Keyed)

/-- An element, as it is. -/
def rawR (v : Value) : Option (DataW Value × List MemPlace) := some (.held v, [])
def ik (n : Int) : Lit := .int .i64 n
def datI (l : List (Int × Value)) : DataW Value := .map (l.map fun p => (ik p.1, .held p.2))
def getI (l : List (Int × Value)) (n : Int) : Option Value := (l.find? fun p => p.1 == n).map (·.2)
def insI (x : Int × Value) : List (Int × Value) → List (Int × Value)
  | [] => [x]
  | y :: r => if x.1 < y.1 then x :: y :: r else y :: insI x r
def delI (l : List (Int × Value)) (n : Int) : List (Int × Value) := l.filter fun p => p.1 != n
def putI (l : List (Int × Value)) (n : Int) (v : Value) : List (Int × Value) := insI (n, v) (delI l n)
def Srt (l : List (Int × Value)) : Prop := l.Pairwise fun p q => p.1 < q.1

theorem sameKey_ik (a b : Int) : (ik a).sameKey (ik b) = (a == b) := by
  simp only [ik, Lit.sameKey, true_and]; rfl
theorem find_dat (l : List (Int × Value)) (n : Int) : (l.map fun p => ((ik p.1, .held p.2) : Lit × DataW Value)).find? (fun p => p.1.sameKey (ik n)) = (l.find? fun p => p.1 == n).map fun p => (ik p.1, .held p.2) := by
  induction l with
  | nil => rfl
  | cons y r ih =>
    simp only [List.map_cons, List.find?_cons, sameKey_ik]
    cases y.1 == n
    · exact ih
    · rfl
theorem atKey_dat (l : List (Int × Value)) (n : Int) (z : DataW Value) : (datI l).atKey (ik n) z = match getI l n with | some v => .held v | none => z := by
  simp only [datI, DataW.atKey, find_dat, getI]
  cases l.find? fun p => p.1 == n <;> rfl
theorem has_dat (l : List (Int × Value)) (n : Int) : Maps.has (datI l) (ik n) = (getI l n).isSome := by
  simp only [datI, Maps.has_eq, getI, List.any_map, Option.isSome_map]
  rw [Bool.eq_iff_iff, List.any_eq_true, List.find?_isSome]
  simp only [Function.comp, sameKey_ik]
theorem filter_dat (l : List (Int × Value)) (n : Int) : (l.map fun p => ((ik p.1, .held p.2) : Lit × DataW Value)).filter (fun p => !p.1.sameKey (ik n)) = (delI l n).map fun p => (ik p.1, .held p.2) := by
  induction l with
  | nil => rfl
  | cons y r ih =>
    simp only [delI, List.map_cons, List.filter_cons, sameKey_ik]
    simp only [delI] at ih
    by_cases h : y.1 = n
    · simp [h, ih]
    · simp [h, ih]
theorem insert_dat (n : Int) (v : Value) (l : List (Int × Value)) : DataW.insert (ik n, .held v) (l.map fun p => ((ik p.1, .held p.2) : Lit × DataW Value)) = (insI (n, v) l).map fun p => (ik p.1, .held p.2) := by
  induction l with
  | nil => rfl
  | cons y r ih =>
    simp only [List.map_cons, DataW.insert, insI, ik, Lit.before, decide_eq_true_eq]
    by_cases h : n < y.1
    · rw [if_pos h, if_pos h]; rfl
    · rw [if_neg h, if_neg h, List.map_cons]; exact congrArg (List.cons _) ih
theorem put_dat (l : List (Int × Value)) (n : Int) (v : Value) : (datI l).put (ik n) (.held v) = datI (putI l n v) := by
  simp only [datI, DataW.put, filter_dat, insert_dat, putI]
theorem del_dat (l : List (Int × Value)) (n : Int) : (datI l).del (ik n) = datI (delI l n) := by
  simp only [datI, DataW.del, filter_dat]
theorem mem_insI {x y : Int × Value} : ∀ {l : List (Int × Value)}, y ∈ insI x l ↔ y = x ∨ y ∈ l
  | [] => by simp [insI]
  | z :: r => by
    rw [insI]
    split
    · simp
    · simp only [List.mem_cons, mem_insI (l := r)]
      constructor
      · rintro (h | h | h) <;> simp [h]
      · rintro (h | h | h) <;> simp [h]
theorem Srt.del {l : List (Int × Value)} (h : Srt l) (n : Int) : Srt (delI l n) := List.Pairwise.filter _ h
theorem Srt.ins {x : Int × Value} : ∀ {l : List (Int × Value)}, Srt l → (∀ y ∈ l, y.1 ≠ x.1) → Srt (insI x l)
  | [], _, _ => by simp [insI, Srt]
  | y :: r, h, hn => by
    obtain ⟨h1, h2⟩ := List.pairwise_cons.1 h
    have hy := hn y List.mem_cons_self
    rw [insI]
    split
    · rename_i hlt
      refine List.pairwise_cons.2 ⟨fun z hz => ?_, h⟩
      rcases List.mem_cons.1 hz with rfl | hz
      · exact hlt
      · exact Int.lt_trans hlt (h1 z hz)
    · refine List.pairwise_cons.2 ⟨fun z hz => ?_, Srt.ins h2 (fun z hz => hn z (List.mem_cons_of_mem _ hz))⟩
      rcases mem_insI.1 hz with rfl | hz
      · omega
      · exact h1 z hz
theorem mem_delI {l : List (Int × Value)} {n : Int} {p : Int × Value} : p ∈ delI l n ↔ p ∈ l ∧ p.1 ≠ n := by simp [delI]
theorem Srt.put {l : List (Int × Value)} (h : Srt l) (n : Int) (v : Value) : Srt (putI l n v) := (h.del n).ins (fun y hy => (mem_delI.1 hy).2)
theorem Srt.key {l : List (Int × Value)} (h : Srt l) {p q : Int × Value} (hp : p ∈ l) (hq : q ∈ l) (e : p.1 = q.1) : p = q := by
  induction l with
  | nil => simp at hp
  | cons y r ih =>
    obtain ⟨h1, h2⟩ := List.pairwise_cons.1 h
    rcases List.mem_cons.1 hp with e1 | hp' <;> rcases List.mem_cons.1 hq with e2 | hq'
    · rw [e1, e2]
    · have := h1 q hq'; rw [← e1] at this; omega
    · have := h1 p hp'; rw [← e2] at this; omega
    · exact ih h2 hp' hq'
theorem getI_mem {l : List (Int × Value)} {n : Int} {v : Value} (h : getI l n = some v) : (n, v) ∈ l := by
  simp only [getI, Option.map_eq_some_iff] at h
  obtain ⟨p, hp, rfl⟩ := h
  have h1 := List.find?_some hp
  have h2 := List.mem_of_find?_eq_some hp
  have : p.1 = n := by simpa using h1
  rw [← this]; exact h2
theorem getI_of_mem {l : List (Int × Value)} (hs : Srt l) {n : Int} {v : Value} (h : (n, v) ∈ l) : getI l n = some v := by
  have h1 : (l.find? fun p => p.1 == n).isSome := by rw [List.find?_isSome]; exact ⟨_, h, by simp⟩
  obtain ⟨p, hp⟩ := Option.isSome_iff_exists.1 h1
  have h2 := List.mem_of_find?_eq_some hp
  have h3 : p.1 = n := by simpa using List.find?_some hp
  have := hs.key h2 h h3
  rw [getI, hp, this]; rfl

/-- Block b of w is a map that reads as l. -/
def IMap (w : World) (P : Program) (k : TypeId) (b : Nat) (l : List (Int × Value)) : Prop := Srt l ∧ w.ownsMap P k rawR b l.length (datI l)
theorem owns_tight {w : World} {P : Program} {k : TypeId} {b n : Nat} {l : List (Int × Value)} (h : w.ownsMap P k rawR b n (datI l)) : w.ownsMap P k rawR b l.length (datI l) := by
  obtain ⟨es, clock, hb, F, _, hD⟩ := h
  refine ⟨es, clock, hb, F, ?_, hD⟩
  have := congrArg Maps.size hD
  simp only [datI, Maps.size_eq, List.length_map, length_sorted, Array.length_toList] at this
  omega
section
variable {w w' : World} {P : Program} {k e t : TypeId} {b n : Nat} {l : List (Int × Value)}
theorem IMap.new (w : World) (P : Program) (k : TypeId) : IMap (w.alloc (.map #[] 0)) P k w.heap.size [] := ⟨List.Pairwise.nil, World.ownsMap_made w P k rawR⟩
theorem IMap.same (h : IMap w P k b l) (he : w'.heap[b]? = w.heap[b]?) : IMap w' P k b l := by
  obtain ⟨hs, es, clock, hb, r⟩ := h
  exact ⟨hs, es, clock, he.trans hb, r⟩
theorem IMap.lt (h : IMap w P k b l) : b < w.heap.size := h.2.lt
theorem IMap.below (h : IMap w P k b l) (hb : Below w.heap.size w w') : IMap w' P k b l := h.same (hb.block b h.lt)
theorem IMap.isObj (h : IMap w P k b l) : ∃ es clock, w.heap[b]? = some (.map es clock) := by
  obtain ⟨_, es, clock, hb, _⟩ := h
  exact ⟨es, clock, hb⟩
theorem IMap.put (h : IMap w P k b l) {m : Nat} (x : Int) (v : Value) (ho : w'.ownsMap P k rawR b m ((datI l).put (ik x) (.held v))) : IMap w' P k b (putI l x v) := by
  rw [put_dat] at ho
  exact ⟨h.1.put x v, owns_tight ho⟩
theorem IMap.del (h : IMap w P k b l) {m : Nat} (x : Int) (ho : w'.ownsMap P k rawR b m ((datI l).del (ik x))) : IMap w' P k b (delI l x) := by
  rw [del_dat] at ho
  exact ⟨h.1.del x, owns_tight ho⟩

/-- An iterator over it: what is still to come. -/
def IRange (w : World) (P : Program) (k : TypeId) (b r : Nat) (l todo : List (Int × Value)) (cnt : Nat) : Prop := Srt l ∧ ∃ left, w.ranges P k rawR b r l.length (datI l) left cnt ∧ todo = l.filter fun p => left (ik p.1)
variable {r cnt : Nat} {todo : List (Int × Value)}
theorem IRange.same (h : IRange w P k b r l todo cnt) (h1 : w'.heap[b]? = w.heap[b]?) (h2 : w'.heap[r]? = w.heap[r]?) : IRange w' P k b r l todo cnt := by
  obtain ⟨hs, left, ⟨es, clock, since, seen, c0, hb, F, hn, hD, hr, rest⟩, ht⟩ := h
  exact ⟨hs, left, ⟨es, clock, since, seen, c0, h1.trans hb, F, hn, hD, h2.trans hr, rest⟩, ht⟩
theorem IRange.lt (h : IRange w P k b r l todo cnt) : b < w.heap.size ∧ r < w.heap.size := by
  obtain ⟨_, left, h, _⟩ := h
  exact ⟨h.owns.lt, h.lt⟩
theorem IRange.below (h : IRange w P k b r l todo cnt) (hb : Below w.heap.size w w') : IRange w' P k b r l todo cnt := h.same (hb.block b h.lt.1) (hb.block r h.lt.2)
theorem IRange.left_eq (h : IRange w P k b r l todo cnt) : w.rangeLeft b r = cnt := by
  obtain ⟨_, left, h, _⟩ := h
  exact h.left_eq
theorem IRange.map (h : IRange w P k b r l todo cnt) : IMap w P k b l := by
  obtain ⟨hs, left, h, _⟩ := h
  exact ⟨hs, h.owns⟩
theorem IRange.sub (h : IRange w P k b r l todo cnt) : ∀ p ∈ todo, p ∈ l := by
  obtain ⟨_, left, _, rfl⟩ := h
  exact fun p hp => (List.mem_filter.1 hp).1
theorem IRange.start (h : IMap w P k b l) (hr : w'.ranges P k rawR b r l.length (datI l) (Maps.has (datI l)) cnt) : IRange w' P k b r l l cnt := by
  refine ⟨h.1, _, hr, ?_⟩
  symm
  rw [List.filter_eq_self]
  intro p hp
  rw [has_dat, getI_of_mem h.1 (v := p.2) hp]; rfl
theorem IRange.done (h : IRange w P k b r l todo cnt) {left : Lit → Bool} (hl : ∀ kl, left kl = false) (ht : todo = l.filter fun p => left (ik p.1)) : todo = [] := by
  rw [ht, List.filter_eq_nil_iff]
  intro p _
  rw [hl]; simp
theorem IRange.step {left : Lit → Bool} {x : Int} {v : Value} {cnt' : Nat} (hs : Srt l) (hl : left (ik x) = true) (hat : ∀ zd, (datI l).atKey (ik x) zd = .held v) (hr : w'.ranges P k rawR b r l.length (datI l) (fun z => left z && !z.sameKey (ik x)) cnt') :
    (x, v) ∈ l.filter (fun p => left (ik p.1)) ∧ IRange w' P k b r l (delI (l.filter fun p => left (ik p.1)) x) cnt' := by
  have hm : (x, v) ∈ l := by
    cases hg : getI l x with
    | none => have := hat .nil; rw [atKey_dat, hg] at this; cases this
    | some u =>
      have := hat .nil
      rw [atKey_dat, hg] at this
      injection this with e
      rw [← e]; exact getI_mem hg
  refine ⟨List.mem_filter.2 ⟨hm, hl⟩, hs, _, hr, ?_⟩
  rw [delI, List.filter_filter]
  refine List.filter_congr fun p _ => ?_
  rw [sameKey_ik, Bool.and_comm]
  rfl
end
end Go.Proofs.Ytonbnlfijmapfaa
/- Maps at keys of int: the laws at the operations. No condition. -/
namespace Go.Proofs.Ytonbnlfijmapfaa
set_option linter.unusedVariables false
open Go Go.RowKit Go.ChangeMaps Go.MapKept
open Go.Maps (Keyed)

theorem wf_ik {n : Int} (h0 : -9223372036854775808 ≤ n) (h1 : n ≤ 9223372036854775807) : (Lit.int .i64 n).wf = true := by
  simp [Lit.wf, IntKind.min, IntKind.max, IntKind.signed, IntKind.bits, h0, h1]
section
variable {P : Program} (w : World) {ops : Array Oper} {rest : List Oper} {o : Oper} {a : Act} {Q : Exit → Act → World → Prop}
theorem wpList_look_ok (hg : o.guard = none) (m x : Operand) (t : TypeId) (hop : o.op = Op.lookup t m x true)
    (k e : TypeId) (hk : P.underlying k = some (.int .i64)) (ht : P.underlying t = some (.map k e)) {z : Value} (hz : (zeroValue e).run P w = .ok z w) (b : Nat) (l : List (Int × Value))
    (hm : a.eval m = .map (some b)) (h : IMap w P k b l) (n : Int) (hx : a.eval x = .int .i64 n) (hw : (Lit.int .i64 n).wf = true)
    (hK : wpList P ops Q rest (a.put o.dst (.tuple #[(getI l n).getD z, .bool (getI l n).isSome])) w) :
    wpList P ops Q (o :: rest) a w := by
  refine wpList_lookup_own_ok w hg m x t hop k e (Maps.int_keyed hk) ht rawR hz (.held z) [] rfl b l.length (datI l) hm h.2 (.int .i64 n) (ik n) hx (Maps.keyOf_int_mk hk hw) (fun v ps hv => ?_)
  rw [atKey_dat] at hv
  rw [has_dat]
  cases hq : getI l n with
  | none => rw [hq] at hv hK; simp only [rawR, Option.some.injEq, Prod.mk.injEq, DataW.held.injEq] at hv; rw [hv.1]; exact hK
  | some u => rw [hq] at hv hK; simp only [rawR, Option.some.injEq, Prod.mk.injEq, DataW.held.injEq] at hv; rw [hv.1]; exact hK
theorem wpList_look (hg : o.guard = none) (m x : Operand) (t : TypeId) (hop : o.op = Op.lookup t m x false)
    (k e : TypeId) (hk : P.underlying k = some (.int .i64)) (ht : P.underlying t = some (.map k e)) {z : Value} (hz : (zeroValue e).run P w = .ok z w) (b : Nat) (l : List (Int × Value))
    (hm : a.eval m = .map (some b)) (h : IMap w P k b l) (n : Int) (hx : a.eval x = .int .i64 n) (hw : (Lit.int .i64 n).wf = true)
    (hK : wpList P ops Q rest (a.put o.dst ((getI l n).getD z)) w) :
    wpList P ops Q (o :: rest) a w := by
  refine wpList_plain hg fun K' hK' => ?_
  obtain ⟨v, ps, hrun, hv⟩ := h.2.lookup (Maps.int_keyed hk) ht hz (zd := .held z) (zp := []) rfl (Maps.keyOf_int_mk hk hw)
  unfold Oper.wp
  simp [execOp, hop, hm, hx, hrun, Result.andThen]
  refine hK' _ _ ?_
  rw [show (Lit.int IntKind.i64 n) = ik n from rfl, atKey_dat] at hv
  cases hq : getI l n with
  | none => rw [hq] at hv hK; simp only [rawR, Option.some.injEq, Prod.mk.injEq, DataW.held.injEq] at hv; rw [hv.1]; exact hK
  | some u => rw [hq] at hv hK; simp only [rawR, Option.some.injEq, Prod.mk.injEq, DataW.held.injEq] at hv; rw [hv.1]; exact hK
theorem wpList_mput (hg : o.guard = none) (m x v : Operand) (t : TypeId) (hop : o.op = Op.mapUpdate t m x v)
    (k e : TypeId) (hk : P.underlying k = some (.int .i64)) (ht : P.underlying t = some (.map k e)) (b : Nat) (l : List (Int × Value))
    (hm : a.eval m = .map (some b)) (h : IMap w P k b l) (hn : l.length < maxLen) (n : Int) (val : Value) (hx : a.eval x = .int .i64 n) (hv : a.eval v = val) (hw : (Lit.int .i64 n).wf = true)
    (hK : ∀ w', IMap w' P k b (putI l n val) → w.mapTurned w' b → wpList P ops Q rest (a.put o.dst undef) w') :
    wpList P ops Q (o :: rest) a w :=
  wpList_mapUpdate_in w hg m x v t hop k e (Maps.int_keyed hk) ht rawR b l.length (datI l) hm h.2 hn (.int .i64 n) val (ik n) hx hv (Maps.keyOf_int_mk hk hw) (.held val) [] rfl (fun w' ho ht => hK w' (h.put n val ho) ht)
theorem wpList_mdel (hg : o.guard = none) (m x : Operand) (t k : TypeId) (hop : o.op = Op.call { callee := Callee.builtin Builtin.delete, args := #[m, x], argTypes := #[t, k] })
    (e : TypeId) (hk : P.underlying k = some (.int .i64)) (ht : P.underlying t = some (.map k e)) (b : Nat) (l : List (Int × Value))
    (hm : a.eval m = .map (some b)) (h : IMap w P k b l) (n : Int) (hx : a.eval x = .int .i64 n) (hw : (Lit.int .i64 n).wf = true)
    (hK : ∀ w', IMap w' P k b (delI l n) → w.mapTurned w' b → wpList P ops Q rest (a.put o.dst (.tuple #[])) w') :
    wpList P ops Q (o :: rest) a w :=
  wpList_delete_own w hg m x t k hop e (Maps.int_keyed hk) ht rawR b l.length (datI l) hm h.2 (.int .i64 n) (ik n) hx (Maps.keyOf_int_mk hk hw) (fun w' ho ht => hK w' (h.del n ho) ht)
theorem wpList_mrange (hg : o.guard = none) (m : Operand) (t : TypeId) (hop : o.op = Op.range t m) (k e : TypeId) (hk : P.underlying k = some (.int .i64)) (ht : P.underlying t = some (.map k e)) (b : Nat) (l : List (Int × Value))
    (hm : a.eval m = .map (some b)) (h : IMap w P k b l)
    (hK : ∀ w' cnt, IRange w' P k b w.heap.size l l cnt → w.grownBy w' none → w'.heap.size = w.heap.size + 1 → wpList P ops Q rest (a.put o.dst (.pointer (some ⟨w.heap.size, 0, none⟩))) w') :
    wpList P ops Q (o :: rest) a w :=
  wpList_range_own w hg m t hop k e (Maps.int_keyed hk) ht rawR b l.length (datI l) hm h.2 (fun w' hr hg hs => hK w' _ (IRange.start h hr) hg hs)
theorem wpList_mnext (hg : o.guard = none) (it : Operand) (hop : o.op = Op.next it false) (k : TypeId) (hk : P.underlying k = some (.int .i64)) (b r : Nat) (l todo : List (Int × Value)) (cnt : Nat)
    (hit : a.eval it = .pointer (some ⟨r, 0, none⟩)) (h : IRange w P k b r l todo cnt)
    (hDone : todo = [] → wpList P ops Q rest (a.put o.dst (.tuple #[.bool false])) w)
    (hMore : ∀ (x : Int) (v : Value) (w' : World) (cnt' : Nat), (x, v) ∈ todo → IRange w' P k b r l (delI todo x) cnt' → cnt' < cnt →
      w.grownBy w' (some r) → w'.heap.size = w.heap.size → (Instr.entry (.pointer (some ⟨r, 0, none⟩))).run P w' = .ok (.tuple #[.int .i64 x, v]) w' → wpList P ops Q rest (a.put o.dst (.tuple #[.bool true, .int .i64 x, v])) w') :
    wpList P ops Q (o :: rest) a w := by
  obtain ⟨hs, left, hr, rfl⟩ := h
  refine wpList_next_ranges w hg it hop k (Maps.int_keyed hk) rawR (Value.int .i64) (fun v : Value => v) (fun key kl hkey => by obtain ⟨x, rfl, _⟩ := Maps.keyOf_int_inv hk hkey; exact ⟨x, rfl⟩) (fun v y _ => ⟨v, rfl⟩) b r l.length (datI l) left cnt hit hr (fun _ hl => hDone (IRange.done ⟨hs, left, hr, rfl⟩ hl rfl)) (fun x v kl y w' cnt' hkey hl hv hat hr' hlt hg hz hen => ?_)
  obtain ⟨x', ex, rfl, _⟩ := Maps.keyOf_int_inv hk hkey
  cases ex
  simp only [rawR, Option.some.injEq] at hv
  subst hv
  obtain ⟨h1, h2⟩ := IRange.step (w' := w') hs hl hat hr'
  exact hMore x v w' cnt' h1 h2 hlt hg hz hen
theorem wpList_mnextE {β : Type} (mkV : β → Value) (hg : o.guard = none) (it : Operand) (hop : o.op = Op.next it false) (k : TypeId) (hk : P.underlying k = some (.int .i64)) (b r : Nat) (l todo : List (Int × Value)) (cnt : Nat)
    (inv : ∀ n v, (n, v) ∈ l → ∃ c : β, v = mkV c) (hit : a.eval it = .pointer (some ⟨r, 0, none⟩)) (h : IRange w P k b r l todo cnt)
    (hDone : todo = [] → wpList P ops Q rest (a.put o.dst (.tuple #[.bool false])) w)
    (hMore : ∀ (x : Int) (c : β) (w' : World) (cnt' : Nat), (x, mkV c) ∈ todo → IRange w' P k b r l (delI todo x) cnt' → cnt' < cnt →
      w.grownBy w' (some r) → w'.heap.size = w.heap.size → (Instr.entry (.pointer (some ⟨r, 0, none⟩))).run P w' = .ok (.tuple #[.int .i64 x, mkV c]) w' → wpList P ops Q rest (a.put o.dst (.tuple #[.bool true, .int .i64 x, mkV c])) w') :
    wpList P ops Q (o :: rest) a w :=
  wpList_mnext w hg it hop k hk b r l todo cnt hit h hDone (fun x v w' cnt' hm h1 h2 h3 h4 h5 => by
    obtain ⟨c, rfl⟩ := inv x v (h.sub _ hm)
    exact hMore x c w' cnt' hm h1 h2 h3 h4 h5)
end
end Go.Proofs.Ytonbnlfijmapfaa
/- The kinds of the program's plain values (Value, Prop, Vertex, Edge, Entry, Key), as data in Lean, and how they lie in cells. No condition. -/
namespace Go.Proofs.Ytonbnlfijmapfaa
open Go.RowKit Go.Proofs.YtonbnlfijmapfaaW.PrintWords
set_option linter.unusedVariables false
set_option linter.unusedSimpArgs false
set_option linter.unusedVariables false

/-! #### struct type 42 -/
structure SValue where
  f0 : Int
  f1 : Int
  f2 : ByteArray
def zValue : SValue := ⟨(0 : Int), (0 : Int), (⟨#[]⟩ : ByteArray)⟩
def kValue : Kd SValue := Kd.iso (Kd.pair (Kd.int .i64) (Kd.pair (Kd.int .i64) Kd.string)) (fun x : SValue => (x.f0, x.f1, x.f2))
theorem kValue_open {w : World} {x : SValue} {cs : List Value} (h : kValue.K w x cs) : cs = [.int .i64 x.f0, .int .i64 x.f1, .string x.f2] := by
  obtain ⟨_, _, rfl, rfl, ⟨_, _, rfl, rfl, rfl⟩⟩ := h
  exact rfl
theorem kValue_openM {w : World} {base : Nat} {ok : Nat → Prop} {x : SValue} {cs : List Value} (h : kValue.M w base ok x cs) : cs = [.int .i64 x.f0, .int .i64 x.f1, .string x.f2] := by
  obtain ⟨_, _, rfl, rfl, ⟨_, _, rfl, rfl, rfl⟩⟩ := h
  exact rfl
theorem kValue_mk (w : World) (x : SValue)  : kValue.K w x [.int .i64 x.f0, .int .i64 x.f1, .string x.f2] := ⟨[.int .i64 x.f0], [.int .i64 x.f1, .string x.f2], rfl, rfl, ⟨[.int .i64 x.f1], [.string x.f2], rfl, rfl, rfl⟩⟩
theorem kValue_mkM (w : World) (base : Nat) (ok : Nat → Prop) (x : SValue)  : kValue.M w base ok x [.int .i64 x.f0, .int .i64 x.f1, .string x.f2] := ⟨[.int .i64 x.f0], [.int .i64 x.f1, .string x.f2], rfl, rfl, ⟨[.int .i64 x.f1], [.string x.f2], rfl, rfl, rfl⟩⟩
def rd_Value (xs : List SValue) (i : Int) : SValue := xs.getD i.toNat zValue
theorem at_Value {w : World} {A : Option Addr} {n : Nat} {xs : List SValue} (h : Kd.C kValue w A n xs) (i : Int) (h0 : 0 ≤ i) (h1 : i < n) : ∃ ad , A = some ad ∧ w.cell? (ad.add (i.toNat * 3)) = some (.int .i64 (rd_Value xs i).f0) ∧ w.cell? ⟨(ad.add (i.toNat * 3)).block, (ad.add (i.toNat * 3)).off + 1, none⟩ = some (.int .i64 (rd_Value xs i).f1) ∧ w.cell? ⟨(ad.add (i.toNat * 3)).block, (ad.add (i.toNat * 3)).off + 2, none⟩ = some (.string (rd_Value xs i).f2) := by
  obtain ⟨ad, c, e, _, hK, hc0⟩ := Kd.C_get h zValue i h0 h1
  have hc : ∀ j u, c[j]? = some u → w.cell? (ad.add (i.toNat * 3 + j)) = some u := hc0
  obtain rfl := kValue_open hK
  exact ⟨ad, e, hc 0 _ rfl, by rw [← add_field _ _ 1 (by omega)]; exact hc 1 _ rfl, by rw [← add_field _ _ 2 (by omega)]; exact hc 2 _ rfl⟩

/-! #### struct type 117 -/
structure SPrp where
  f0 : ByteArray
  f1 : SValue
def zPrp : SPrp := ⟨(⟨#[]⟩ : ByteArray), zValue⟩
def kPrp : Kd SPrp := Kd.iso (Kd.pair Kd.string kValue) (fun x : SPrp => (x.f0, x.f1))
theorem kPrp_open {w : World} {x : SPrp} {cs : List Value} (h : kPrp.K w x cs) : cs = [.string x.f0, .int .i64 x.f1.f0, .int .i64 x.f1.f1, .string x.f1.f2] := by
  obtain ⟨_, _, rfl, rfl, s1⟩ := h
  obtain rfl := kValue_open s1
  exact rfl
theorem kPrp_openM {w : World} {base : Nat} {ok : Nat → Prop} {x : SPrp} {cs : List Value} (h : kPrp.M w base ok x cs) : cs = [.string x.f0, .int .i64 x.f1.f0, .int .i64 x.f1.f1, .string x.f1.f2] := by
  obtain ⟨_, _, rfl, rfl, s1⟩ := h
  obtain rfl := kValue_openM s1
  exact rfl
theorem kPrp_mk (w : World) (x : SPrp)  : kPrp.K w x [.string x.f0, .int .i64 x.f1.f0, .int .i64 x.f1.f1, .string x.f1.f2] := ⟨[.string x.f0], [.int .i64 x.f1.f0, .int .i64 x.f1.f1, .string x.f1.f2], rfl, rfl, (kValue_mk w x.f1 )⟩
theorem kPrp_mkM (w : World) (base : Nat) (ok : Nat → Prop) (x : SPrp)  : kPrp.M w base ok x [.string x.f0, .int .i64 x.f1.f0, .int .i64 x.f1.f1, .string x.f1.f2] := ⟨[.string x.f0], [.int .i64 x.f1.f0, .int .i64 x.f1.f1, .string x.f1.f2], rfl, rfl, (kValue_mkM w base ok x.f1 )⟩
def rd_Prp (xs : List SPrp) (i : Int) : SPrp := xs.getD i.toNat zPrp
theorem at_Prp {w : World} {A : Option Addr} {n : Nat} {xs : List SPrp} (h : Kd.C kPrp w A n xs) (i : Int) (h0 : 0 ≤ i) (h1 : i < n) : ∃ ad , A = some ad ∧ w.cell? (ad.add (i.toNat * 4)) = some (.string (rd_Prp xs i).f0) ∧ w.cell? ⟨(ad.add (i.toNat * 4)).block, (ad.add (i.toNat * 4)).off + 1, none⟩ = some (.int .i64 (rd_Prp xs i).f1.f0) ∧ w.cell? ⟨(ad.add (i.toNat * 4)).block, (ad.add (i.toNat * 4)).off + 2, none⟩ = some (.int .i64 (rd_Prp xs i).f1.f1) ∧ w.cell? ⟨(ad.add (i.toNat * 4)).block, (ad.add (i.toNat * 4)).off + 3, none⟩ = some (.string (rd_Prp xs i).f1.f2) := by
  obtain ⟨ad, c, e, _, hK, hc0⟩ := Kd.C_get h zPrp i h0 h1
  have hc : ∀ j u, c[j]? = some u → w.cell? (ad.add (i.toNat * 4 + j)) = some u := hc0
  obtain rfl := kPrp_open hK
  exact ⟨ad, e, hc 0 _ rfl, by rw [← add_field _ _ 1 (by omega)]; exact hc 1 _ rfl, by rw [← add_field _ _ 2 (by omega)]; exact hc 2 _ rfl, by rw [← add_field _ _ 3 (by omega)]; exact hc 3 _ rfl⟩

def rd_slPrp (xs : List (List SPrp)) (i : Int) : (List SPrp) := xs.getD i.toNat ([] : List SPrp)
theorem at_slPrp {w : World} {A : Option Addr} {n : Nat} {xs : List (List SPrp)} (h : Kd.C (Kd.slice 117 kPrp) w A n xs) (i : Int) (h0 : 0 ≤ i) (h1 : i < n) : ∃ ad A0 c0, A = some ad ∧ w.cell? (ad.add i.toNat) = some (.slice A0 (rd_slPrp xs i).length c0) ∧ (rd_slPrp xs i).length ≤ c0 ∧ kPrp.C w A0 (rd_slPrp xs i).length (rd_slPrp xs i) := by
  obtain ⟨ad, c, e, _, hK, hc0⟩ := Kd.C_get h ([] : List SPrp) i h0 h1
  have hc : ∀ j u, c[j]? = some u → w.cell? (ad.add (i.toNat * 1 + j)) = some u := hc0
  obtain ⟨A0, c0, rfl, l0, g0⟩ := hK
  exact ⟨ad, A0, c0, e, by have hq := hc 0 _ rfl; rwa [Nat.mul_one, Nat.add_zero] at hq, l0, g0⟩

/-! #### struct type 24 -/
structure SVert where
  f0 : Int
  f1 : ByteArray
  f2 : (List SPrp)
def zVert : SVert := ⟨(0 : Int), (⟨#[]⟩ : ByteArray), ([] : List SPrp)⟩
def kVert : Kd SVert := Kd.iso (Kd.pair (Kd.int .i64) (Kd.pair Kd.string (Kd.slice 117 kPrp))) (fun x : SVert => (x.f0, x.f1, x.f2))
theorem kVert_open {w : World} {x : SVert} {cs : List Value} (h : kVert.K w x cs) : ∃ A2 c2, cs = [.int .i64 x.f0, .string x.f1, .slice A2 x.f2.length c2] ∧ x.f2.length ≤ c2 ∧ kPrp.C w A2 x.f2.length x.f2 := by
  obtain ⟨_, _, rfl, rfl, ⟨_, _, rfl, rfl, ⟨A2, c2, rfl, l2, g2⟩⟩⟩ := h
  exact ⟨A2, c2, rfl, l2, g2⟩
theorem kVert_openM {w : World} {base : Nat} {ok : Nat → Prop} {x : SVert} {cs : List Value} (h : kVert.M w base ok x cs) : ∃ v2, cs = [.int .i64 x.f0, .string x.f1, v2] ∧ kPrp.R 117 w base ok v2 x.f2 := by
  obtain ⟨_, _, rfl, rfl, ⟨_, _, rfl, rfl, ⟨v2, rfl, g2⟩⟩⟩ := h
  exact ⟨v2, rfl, g2⟩
theorem kVert_mk (w : World) (x : SVert) {A2 : Option Addr} {c2 : Nat} (l2 : x.f2.length ≤ c2) (g2 : kPrp.C w A2 x.f2.length x.f2) : kVert.K w x [.int .i64 x.f0, .string x.f1, .slice A2 x.f2.length c2] := ⟨[.int .i64 x.f0], [.string x.f1, .slice A2 x.f2.length c2], rfl, rfl, ⟨[.string x.f1], [.slice A2 x.f2.length c2], rfl, rfl, ⟨A2, c2, rfl, l2, g2⟩⟩⟩
theorem kVert_mkM (w : World) (base : Nat) (ok : Nat → Prop) (x : SVert) {v2 : Value} (g2 : kPrp.R 117 w base ok v2 x.f2) : kVert.M w base ok x [.int .i64 x.f0, .string x.f1, v2] := ⟨[.int .i64 x.f0], [.string x.f1, v2], rfl, rfl, ⟨[.string x.f1], [v2], rfl, rfl, ⟨v2, rfl, g2⟩⟩⟩
def rd_Vert (xs : List SVert) (i : Int) : SVert := xs.getD i.toNat zVert
theorem at_Vert {w : World} {A : Option Addr} {n : Nat} {xs : List SVert} (h : Kd.C kVert w A n xs) (i : Int) (h0 : 0 ≤ i) (h1 : i < n) : ∃ ad A2 c2, A = some ad ∧ w.cell? (ad.add (i.toNat * 3)) = some (.int .i64 (rd_Vert xs i).f0) ∧ w.cell? ⟨(ad.add (i.toNat * 3)).block, (ad.add (i.toNat * 3)).off + 1, none⟩ = some (.string (rd_Vert xs i).f1) ∧ w.cell? ⟨(ad.add (i.toNat * 3)).block, (ad.add (i.toNat * 3)).off + 2, none⟩ = some (.slice A2 (rd_Vert xs i).f2.length c2) ∧ (rd_Vert xs i).f2.length ≤ c2 ∧ kPrp.C w A2 (rd_Vert xs i).f2.length (rd_Vert xs i).f2 := by
  obtain ⟨ad, c, e, _, hK, hc0⟩ := Kd.C_get h zVert i h0 h1
  have hc : ∀ j u, c[j]? = some u → w.cell? (ad.add (i.toNat * 3 + j)) = some u := hc0
  obtain ⟨A2, c2, rfl, l2, g2⟩ := kVert_open hK
  exact ⟨ad, A2, c2, e, hc 0 _ rfl, by rw [← add_field _ _ 1 (by omega)]; exact hc 1 _ rfl, by rw [← add_field _ _ 2 (by omega)]; exact hc 2 _ rfl, l2, g2⟩

/-! #### struct type 35 -/
structure SEdg where
  f0 : Int
  f1 : ByteArray
  f2 : Int
  f3 : Int
  f4 : (List SPrp)
def zEdg : SEdg := ⟨(0 : Int), (⟨#[]⟩ : ByteArray), (0 : Int), (0 : Int), ([] : List SPrp)⟩
def kEdg : Kd SEdg := Kd.iso (Kd.pair (Kd.int .i64) (Kd.pair Kd.string (Kd.pair (Kd.int .i64) (Kd.pair (Kd.int .i64) (Kd.slice 117 kPrp))))) (fun x : SEdg => (x.f0, x.f1, x.f2, x.f3, x.f4))
theorem kEdg_open {w : World} {x : SEdg} {cs : List Value} (h : kEdg.K w x cs) : ∃ A4 c4, cs = [.int .i64 x.f0, .string x.f1, .int .i64 x.f2, .int .i64 x.f3, .slice A4 x.f4.length c4] ∧ x.f4.length ≤ c4 ∧ kPrp.C w A4 x.f4.length x.f4 := by
  obtain ⟨_, _, rfl, rfl, ⟨_, _, rfl, rfl, ⟨_, _, rfl, rfl, ⟨_, _, rfl, rfl, ⟨A4, c4, rfl, l4, g4⟩⟩⟩⟩⟩ := h
  exact ⟨A4, c4, rfl, l4, g4⟩
theorem kEdg_openM {w : World} {base : Nat} {ok : Nat → Prop} {x : SEdg} {cs : List Value} (h : kEdg.M w base ok x cs) : ∃ v4, cs = [.int .i64 x.f0, .string x.f1, .int .i64 x.f2, .int .i64 x.f3, v4] ∧ kPrp.R 117 w base ok v4 x.f4 := by
  obtain ⟨_, _, rfl, rfl, ⟨_, _, rfl, rfl, ⟨_, _, rfl, rfl, ⟨_, _, rfl, rfl, ⟨v4, rfl, g4⟩⟩⟩⟩⟩ := h
  exact ⟨v4, rfl, g4⟩
theorem kEdg_mk (w : World) (x : SEdg) {A4 : Option Addr} {c4 : Nat} (l4 : x.f4.length ≤ c4) (g4 : kPrp.C w A4 x.f4.length x.f4) : kEdg.K w x [.int .i64 x.f0, .string x.f1, .int .i64 x.f2, .int .i64 x.f3, .slice A4 x.f4.length c4] := ⟨[.int .i64 x.f0], [.string x.f1, .int .i64 x.f2, .int .i64 x.f3, .slice A4 x.f4.length c4], rfl, rfl, ⟨[.string x.f1], [.int .i64 x.f2, .int .i64 x.f3, .slice A4 x.f4.length c4], rfl, rfl, ⟨[.int .i64 x.f2], [.int .i64 x.f3, .slice A4 x.f4.length c4], rfl, rfl, ⟨[.int .i64 x.f3], [.slice A4 x.f4.length c4], rfl, rfl, ⟨A4, c4, rfl, l4, g4⟩⟩⟩⟩⟩
theorem kEdg_mkM (w : World) (base : Nat) (ok : Nat → Prop) (x : SEdg) {v4 : Value} (g4 : kPrp.R 117 w base ok v4 x.f4) : kEdg.M w base ok x [.int .i64 x.f0, .string x.f1, .int .i64 x.f2, .int .i64 x.f3, v4] := ⟨[.int .i64 x.f0], [.string x.f1, .int .i64 x.f2, .int .i64 x.f3, v4], rfl, rfl, ⟨[.string x.f1], [.int .i64 x.f2, .int .i64 x.f3, v4], rfl, rfl, ⟨[.int .i64 x.f2], [.int .i64 x.f3, v4], rfl, rfl, ⟨[.int .i64 x.f3], [v4], rfl, rfl, ⟨v4, rfl, g4⟩⟩⟩⟩⟩
def rd_Edg (xs : List SEdg) (i : Int) : SEdg := xs.getD i.toNat zEdg
theorem at_Edg {w : World} {A : Option Addr} {n : Nat} {xs : List SEdg} (h : Kd.C kEdg w A n xs) (i : Int) (h0 : 0 ≤ i) (h1 : i < n) : ∃ ad A4 c4, A = some ad ∧ w.cell? (ad.add (i.toNat * 5)) = some (.int .i64 (rd_Edg xs i).f0) ∧ w.cell? ⟨(ad.add (i.toNat * 5)).block, (ad.add (i.toNat * 5)).off + 1, none⟩ = some (.string (rd_Edg xs i).f1) ∧ w.cell? ⟨(ad.add (i.toNat * 5)).block, (ad.add (i.toNat * 5)).off + 2, none⟩ = some (.int .i64 (rd_Edg xs i).f2) ∧ w.cell? ⟨(ad.add (i.toNat * 5)).block, (ad.add (i.toNat * 5)).off + 3, none⟩ = some (.int .i64 (rd_Edg xs i).f3) ∧ w.cell? ⟨(ad.add (i.toNat * 5)).block, (ad.add (i.toNat * 5)).off + 4, none⟩ = some (.slice A4 (rd_Edg xs i).f4.length c4) ∧ (rd_Edg xs i).f4.length ≤ c4 ∧ kPrp.C w A4 (rd_Edg xs i).f4.length (rd_Edg xs i).f4 := by
  obtain ⟨ad, c, e, _, hK, hc0⟩ := Kd.C_get h zEdg i h0 h1
  have hc : ∀ j u, c[j]? = some u → w.cell? (ad.add (i.toNat * 5 + j)) = some u := hc0
  obtain ⟨A4, c4, rfl, l4, g4⟩ := kEdg_open hK
  exact ⟨ad, A4, c4, e, hc 0 _ rfl, by rw [← add_field _ _ 1 (by omega)]; exact hc 1 _ rfl, by rw [← add_field _ _ 2 (by omega)]; exact hc 2 _ rfl, by rw [← add_field _ _ 3 (by omega)]; exact hc 3 _ rfl, by rw [← add_field _ _ 4 (by omega)]; exact hc 4 _ rfl, l4, g4⟩

/-! #### struct type 39 -/
structure SEntry where
  f0 : ByteArray
  f1 : ByteArray
def zEntry : SEntry := ⟨(⟨#[]⟩ : ByteArray), (⟨#[]⟩ : ByteArray)⟩
def kEntry : Kd SEntry := Kd.iso (Kd.pair Kd.string Kd.string) (fun x : SEntry => (x.f0, x.f1))
theorem kEntry_open {w : World} {x : SEntry} {cs : List Value} (h : kEntry.K w x cs) : cs = [.string x.f0, .string x.f1] := by
  obtain ⟨_, _, rfl, rfl, rfl⟩ := h
  exact rfl
theorem kEntry_openM {w : World} {base : Nat} {ok : Nat → Prop} {x : SEntry} {cs : List Value} (h : kEntry.M w base ok x cs) : cs = [.string x.f0, .string x.f1] := by
  obtain ⟨_, _, rfl, rfl, rfl⟩ := h
  exact rfl
theorem kEntry_mk (w : World) (x : SEntry)  : kEntry.K w x [.string x.f0, .string x.f1] := ⟨[.string x.f0], [.string x.f1], rfl, rfl, rfl⟩
theorem kEntry_mkM (w : World) (base : Nat) (ok : Nat → Prop) (x : SEntry)  : kEntry.M w base ok x [.string x.f0, .string x.f1] := ⟨[.string x.f0], [.string x.f1], rfl, rfl, rfl⟩
def rd_Entry (xs : List SEntry) (i : Int) : SEntry := xs.getD i.toNat zEntry
theorem at_Entry {w : World} {A : Option Addr} {n : Nat} {xs : List SEntry} (h : Kd.C kEntry w A n xs) (i : Int) (h0 : 0 ≤ i) (h1 : i < n) : ∃ ad , A = some ad ∧ w.cell? (ad.add (i.toNat * 2)) = some (.string (rd_Entry xs i).f0) ∧ w.cell? ⟨(ad.add (i.toNat * 2)).block, (ad.add (i.toNat * 2)).off + 1, none⟩ = some (.string (rd_Entry xs i).f1) := by
  obtain ⟨ad, c, e, _, hK, hc0⟩ := Kd.C_get h zEntry i h0 h1
  have hc : ∀ j u, c[j]? = some u → w.cell? (ad.add (i.toNat * 2 + j)) = some u := hc0
  obtain rfl := kEntry_open hK
  exact ⟨ad, e, hc 0 _ rfl, by rw [← add_field _ _ 1 (by omega)]; exact hc 1 _ rfl⟩

/-! #### struct type 55 -/
structure SKey where
  f0 : Int
  f1 : Int
  f2 : Int
  f3 : ByteArray
def zKey : SKey := ⟨(0 : Int), (0 : Int), (0 : Int), (⟨#[]⟩ : ByteArray)⟩
def kKey : Kd SKey := Kd.iso (Kd.pair (Kd.int .i64) (Kd.pair (Kd.int .i64) (Kd.pair (Kd.int .i64) Kd.string))) (fun x : SKey => (x.f0, x.f1, x.f2, x.f3))
theorem kKey_open {w : World} {x : SKey} {cs : List Value} (h : kKey.K w x cs) : cs = [.int .i64 x.f0, .int .i64 x.f1, .int .i64 x.f2, .string x.f3] := by
  obtain ⟨_, _, rfl, rfl, ⟨_, _, rfl, rfl, ⟨_, _, rfl, rfl, rfl⟩⟩⟩ := h
  exact rfl
theorem kKey_openM {w : World} {base : Nat} {ok : Nat → Prop} {x : SKey} {cs : List Value} (h : kKey.M w base ok x cs) : cs = [.int .i64 x.f0, .int .i64 x.f1, .int .i64 x.f2, .string x.f3] := by
  obtain ⟨_, _, rfl, rfl, ⟨_, _, rfl, rfl, ⟨_, _, rfl, rfl, rfl⟩⟩⟩ := h
  exact rfl
theorem kKey_mk (w : World) (x : SKey)  : kKey.K w x [.int .i64 x.f0, .int .i64 x.f1, .int .i64 x.f2, .string x.f3] := ⟨[.int .i64 x.f0], [.int .i64 x.f1, .int .i64 x.f2, .string x.f3], rfl, rfl, ⟨[.int .i64 x.f1], [.int .i64 x.f2, .string x.f3], rfl, rfl, ⟨[.int .i64 x.f2], [.string x.f3], rfl, rfl, rfl⟩⟩⟩
theorem kKey_mkM (w : World) (base : Nat) (ok : Nat → Prop) (x : SKey)  : kKey.M w base ok x [.int .i64 x.f0, .int .i64 x.f1, .int .i64 x.f2, .string x.f3] := ⟨[.int .i64 x.f0], [.int .i64 x.f1, .int .i64 x.f2, .string x.f3], rfl, rfl, ⟨[.int .i64 x.f1], [.int .i64 x.f2, .string x.f3], rfl, rfl, ⟨[.int .i64 x.f2], [.string x.f3], rfl, rfl, rfl⟩⟩⟩
def rd_Key (xs : List SKey) (i : Int) : SKey := xs.getD i.toNat zKey
theorem at_Key {w : World} {A : Option Addr} {n : Nat} {xs : List SKey} (h : Kd.C kKey w A n xs) (i : Int) (h0 : 0 ≤ i) (h1 : i < n) : ∃ ad , A = some ad ∧ w.cell? (ad.add (i.toNat * 4)) = some (.int .i64 (rd_Key xs i).f0) ∧ w.cell? ⟨(ad.add (i.toNat * 4)).block, (ad.add (i.toNat * 4)).off + 1, none⟩ = some (.int .i64 (rd_Key xs i).f1) ∧ w.cell? ⟨(ad.add (i.toNat * 4)).block, (ad.add (i.toNat * 4)).off + 2, none⟩ = some (.int .i64 (rd_Key xs i).f2) ∧ w.cell? ⟨(ad.add (i.toNat * 4)).block, (ad.add (i.toNat * 4)).off + 3, none⟩ = some (.string (rd_Key xs i).f3) := by
  obtain ⟨ad, c, e, _, hK, hc0⟩ := Kd.C_get h zKey i h0 h1
  have hc : ∀ j u, c[j]? = some u → w.cell? (ad.add (i.toNat * 4 + j)) = some u := hc0
  obtain rfl := kKey_open hK
  exact ⟨ad, e, hc 0 _ rfl, by rw [← add_field _ _ 1 (by omega)]; exact hc 1 _ rfl, by rw [← add_field _ _ 2 (by omega)]; exact hc 2 _ rfl, by rw [← add_field _ _ 3 (by omega)]; exact hc 3 _ rfl⟩

def rd_slVert (xs : List (List SVert)) (i : Int) : (List SVert) := xs.getD i.toNat ([] : List SVert)
theorem at_slVert {w : World} {A : Option Addr} {n : Nat} {xs : List (List SVert)} (h : Kd.C (Kd.slice 24 kVert) w A n xs) (i : Int) (h0 : 0 ≤ i) (h1 : i < n) : ∃ ad A0 c0, A = some ad ∧ w.cell? (ad.add i.toNat) = some (.slice A0 (rd_slVert xs i).length c0) ∧ (rd_slVert xs i).length ≤ c0 ∧ kVert.C w A0 (rd_slVert xs i).length (rd_slVert xs i) := by
  obtain ⟨ad, c, e, _, hK, hc0⟩ := Kd.C_get h ([] : List SVert) i h0 h1
  have hc : ∀ j u, c[j]? = some u → w.cell? (ad.add (i.toNat * 1 + j)) = some u := hc0
  obtain ⟨A0, c0, rfl, l0, g0⟩ := hK
  exact ⟨ad, A0, c0, e, by have hq := hc 0 _ rfl; rwa [Nat.mul_one, Nat.add_zero] at hq, l0, g0⟩

def rd_slEdg (xs : List (List SEdg)) (i : Int) : (List SEdg) := xs.getD i.toNat ([] : List SEdg)
theorem at_slEdg {w : World} {A : Option Addr} {n : Nat} {xs : List (List SEdg)} (h : Kd.C (Kd.slice 35 kEdg) w A n xs) (i : Int) (h0 : 0 ≤ i) (h1 : i < n) : ∃ ad A0 c0, A = some ad ∧ w.cell? (ad.add i.toNat) = some (.slice A0 (rd_slEdg xs i).length c0) ∧ (rd_slEdg xs i).length ≤ c0 ∧ kEdg.C w A0 (rd_slEdg xs i).length (rd_slEdg xs i) := by
  obtain ⟨ad, c, e, _, hK, hc0⟩ := Kd.C_get h ([] : List SEdg) i h0 h1
  have hc : ∀ j u, c[j]? = some u → w.cell? (ad.add (i.toNat * 1 + j)) = some u := hc0
  obtain ⟨A0, c0, rfl, l0, g0⟩ := hK
  exact ⟨ad, A0, c0, e, by have hq := hc 0 _ rfl; rwa [Nat.mul_one, Nat.add_zero] at hq, l0, g0⟩

def rd_slEntry (xs : List (List SEntry)) (i : Int) : (List SEntry) := xs.getD i.toNat ([] : List SEntry)
theorem at_slEntry {w : World} {A : Option Addr} {n : Nat} {xs : List (List SEntry)} (h : Kd.C (Kd.slice 39 kEntry) w A n xs) (i : Int) (h0 : 0 ≤ i) (h1 : i < n) : ∃ ad A0 c0, A = some ad ∧ w.cell? (ad.add i.toNat) = some (.slice A0 (rd_slEntry xs i).length c0) ∧ (rd_slEntry xs i).length ≤ c0 ∧ kEntry.C w A0 (rd_slEntry xs i).length (rd_slEntry xs i) := by
  obtain ⟨ad, c, e, _, hK, hc0⟩ := Kd.C_get h ([] : List SEntry) i h0 h1
  have hc : ∀ j u, c[j]? = some u → w.cell? (ad.add (i.toNat * 1 + j)) = some u := hc0
  obtain ⟨A0, c0, rfl, l0, g0⟩ := hK
  exact ⟨ad, A0, c0, e, by have hq := hc 0 _ rfl; rwa [Nat.mul_one, Nat.add_zero] at hq, l0, g0⟩

def rd_slKey (xs : List (List SKey)) (i : Int) : (List SKey) := xs.getD i.toNat ([] : List SKey)
theorem at_slKey {w : World} {A : Option Addr} {n : Nat} {xs : List (List SKey)} (h : Kd.C (Kd.slice 55 kKey) w A n xs) (i : Int) (h0 : 0 ≤ i) (h1 : i < n) : ∃ ad A0 c0, A = some ad ∧ w.cell? (ad.add i.toNat) = some (.slice A0 (rd_slKey xs i).length c0) ∧ (rd_slKey xs i).length ≤ c0 ∧ kKey.C w A0 (rd_slKey xs i).length (rd_slKey xs i) := by
  obtain ⟨ad, c, e, _, hK, hc0⟩ := Kd.C_get h ([] : List SKey) i h0 h1
  have hc : ∀ j u, c[j]? = some u → w.cell? (ad.add (i.toNat * 1 + j)) = some u := hc0
  obtain ⟨A0, c0, rfl, l0, g0⟩ := hK
  exact ⟨ad, A0, c0, e, by have hq := hc 0 _ rfl; rwa [Nat.mul_one, Nat.add_zero] at hq, l0, g0⟩

def rd_slint (xs : List (List Int)) (i : Int) : (List Int) := xs.getD i.toNat ([] : List Int)
theorem at_slint {w : World} {A : Option Addr} {n : Nat} {xs : List (List Int)} (h : Kd.C (Kd.slice 3 (Kd.int .i64)) w A n xs) (i : Int) (h0 : 0 ≤ i) (h1 : i < n) : ∃ ad A0 c0, A = some ad ∧ w.cell? (ad.add i.toNat) = some (.slice A0 (rd_slint xs i).length c0) ∧ (rd_slint xs i).length ≤ c0 ∧ (Kd.int .i64).C w A0 (rd_slint xs i).length (rd_slint xs i) := by
  obtain ⟨ad, c, e, _, hK, hc0⟩ := Kd.C_get h ([] : List Int) i h0 h1
  have hc : ∀ j u, c[j]? = some u → w.cell? (ad.add (i.toNat * 1 + j)) = some u := hc0
  obtain ⟨A0, c0, rfl, l0, g0⟩ := hK
  exact ⟨ad, A0, c0, e, by have hq := hc 0 _ rfl; rwa [Nat.mul_one, Nat.add_zero] at hq, l0, g0⟩

def rd_slstring (xs : List (List ByteArray)) (i : Int) : (List ByteArray) := xs.getD i.toNat ([] : List ByteArray)
theorem at_slstring {w : World} {A : Option Addr} {n : Nat} {xs : List (List ByteArray)} (h : Kd.C (Kd.slice 9 Kd.string) w A n xs) (i : Int) (h0 : 0 ≤ i) (h1 : i < n) : ∃ ad A0 c0, A = some ad ∧ w.cell? (ad.add i.toNat) = some (.slice A0 (rd_slstring xs i).length c0) ∧ (rd_slstring xs i).length ≤ c0 ∧ Kd.string.C w A0 (rd_slstring xs i).length (rd_slstring xs i) := by
  obtain ⟨ad, c, e, _, hK, hc0⟩ := Kd.C_get h ([] : List ByteArray) i h0 h1
  have hc : ∀ j u, c[j]? = some u → w.cell? (ad.add (i.toNat * 1 + j)) = some u := hc0
  obtain ⟨A0, c0, rfl, l0, g0⟩ := hK
  exact ⟨ad, A0, c0, e, by have hq := hc 0 _ rfl; rwa [Nat.mul_one, Nat.add_zero] at hq, l0, g0⟩

end Go.Proofs.Ytonbnlfijmapfaa
/- Small laws for the walks: an append onto a row of the call's own; what is kept. No condition. -/
namespace Go.Proofs.Ytonbnlfijmapfaa
open Go.RowKit Go.Shelf Go.Proofs.YtonbnlfijmapfaaW.PrintWords
set_option linter.unusedVariables false
set_option linter.unusedSimpArgs false

theorem ret_bool {a b : Bool} (h : a = b) : Ending.returned (.bool a) = .returned (.bool b) := by rw [h]
theorem ret_int {k : IntKind} {a b : Int} (h : a = b) : Ending.returned (.int k a) = .returned (.int k b) := by rw [h]
theorem ret_str {a b : ByteArray} (h : a = b) : Ending.returned (.string a) = .returned (.string b) := by rw [h]

theorem M_int {k : IntKind} {w : World} {base : Nat} {ok : Nat → Prop} (p : Int) : (Kd.int k).M w base ok p [.int k p] := rfl
theorem M_string {w : World} {base : Nat} {ok : Nat → Prop} (p : ByteArray) : Kd.string.M w base ok p [.string p] := rfl
theorem M_bool {w : World} {base : Nat} {ok : Nat → Prop} (p : Bool) : Kd.bool.M w base ok p [.bool p] := rfl

section
variable {P : Program} {ops : Array Oper} {rest : List Oper} {o : Oper} {a : Act} {Q : Exit → Act → World → Prop} {α : Type} {d : Kd α}
/-- append(v, x), the row first. -/
theorem app_one {base e : Nat} {W : World} {ok : Nat → Prop} {v : Value} {xs : List α} (HO : d.R e W base ok v xs) {z : Value} {bytes : Nat}
    (hinfo : (P.info? e).map (fun i => (i.zero, i.size, i.bytes)) = some (some z, d.sz, bytes)) {t : TypeId} (ht : P.underlying t = some (.slice e)) {p : α} {cs : List Value}
    (hp : d.M W base (fun k => ok k ∧ some k ≠ v.ownBlock) p cs) (hfresh : ∀ k, W.heap.size ≤ k → ok k) (hbase : base ≤ W.heap.size) (hl : (xs.length + 1) * bytes ≤ 140737488355328)
    (hz : z.cells.size = d.sz) (hs0 : 0 < d.sz) (hb0 : 0 < bytes) {s x : Operand}
    (hgd : o.guard = none) (ho : o.op = .call { callee := .builtin .append, args := #[s, x], argTypes := #[t, t] }) (hs : a.eval s = v) (hx : a.eval x = .slice (some ⟨W.heap.size, 0, none⟩) 1 1)
    (h : ∀ v1 w1, d.R e w1 base ok v1 (xs ++ [p]) → Below base W w1 → W.grownBy w1 v.ownBlock → (v1.ownBlock = v.ownBlock ∨ ∃ b, v1.ownBlock = some b ∧ W.heap.size ≤ b) → wpList P ops Q rest (a.put o.dst v1) w1) :
    wpList P ops Q (o :: rest) a (W.alloc (.cells cs.toArray e)) :=
  Kd.R_append d (w0 := W) base hgd s x t e z bytes ho ht hinfo hz hs0 hb0 v xs p cs ok _ hs hx hp (fun _ hk => hk) hfresh HO (Below.refl _ _) hbase hl h
end

theorem R_iterAt {α : Type} {d : Kd α} {e : Nat} {w : World} {base : Nat} {ok : Nat → Prop} {v : Value} {xs : List α} (h : d.R e w base ok v xs) {k : Nat} (hk : k < base) (s : ByteArray) (p : Nat) : d.R e (w.iterAt k s p) base ok v xs :=
  Kd.R_mono (Kd.R_move (Kd.R_bound h) (fun j hj => Lib.iterAt_other w k j s p (by have := hj.2.1; omega))) (fun _ hj => hj.1)
theorem below_down {B B' : Nat} {w w' : World} (h : Below B w w') (hB : B' ≤ B) : Below B' w w' := ⟨h.os, h.tape, h.output, h.size, fun i hi => h.block i (by omega)⟩
theorem drop_cons {α : Type} (xs : List α) (k : Nat) (z : α) (h : k < xs.length) : xs.drop k = xs.getD k z :: xs.drop (k + 1) := by
  rw [List.drop_eq_getElem_cons h]; simp [List.getD_eq_getElem?_getD, List.getElem?_eq_getElem h]

theorem info_i32 : (Try.prog.info? 21).map (fun i => (i.zero, i.size, i.bytes)) = some (some (.int .i32 0), 1, 4) := by kernel_rfl
theorem info_i64 : (Try.prog.info? 3).map (fun i => (i.zero, i.size, i.bytes)) = some (some (.int .i64 0), 1, 8) := by kernel_rfl
theorem info_u8 : (Try.prog.info? 5).map (fun i => (i.zero, i.size, i.bytes)) = some (some (.int .u8 0), 1, 1) := by kernel_rfl
theorem add_zero_ (ad : Addr) : ad.add 0 = ad := by simp [Addr.add]
theorem bcell {W w1 : World} (hb : Below W.heap.size W w1) : (∀ b o, b < W.heap.size → w1.cell? ⟨b, o, none⟩ = W.cell? ⟨b, o, none⟩) ∧ (∀ b o, b < W.heap.size → w1.frozen? ⟨b, o, none⟩ = W.frozen? ⟨b, o, none⟩) :=
  ⟨fun b o h => hb.cell (p := ⟨b, o, none⟩) h, fun b o h => hb.frozen (p := ⟨b, o, none⟩) h⟩
/-- A variadic argument of one. -/
theorem C_box {α : Type} (d : Kd α) (hsz : 0 < d.sz) (W : World) (p : α) (cs : Array Value) (t : Nat) (hK : d.K (W.alloc (.cells cs t)) p cs.toList) : d.C (W.alloc (.cells cs t)) (some ⟨W.heap.size, 0, none⟩) [p].length [p] := by
  refine ⟨rfl, by simp, fun _ => ⟨_, rfl, fun j q hq => ?_⟩⟩
  have hl := d.K_len hK
  obtain ⟨rfl, rfl⟩ : j = 0 ∧ p = q := by
    cases j with
    | zero => simpa using hq
    | succ j => simp at hq
  refine ⟨cs.toList, hl, hK, fun i u hu => ?_⟩
  rw [add_plain]
  have := cell_of_row (W.alloc (.cells cs t)) W.heap.size (0 * d.sz + i) cs t (0, 0) (heap_alloc_new W _)
  rw [this]
  simpa using hu
theorem C_boxd {α : Type} (d : Kd α) (hsz : 0 < d.sz) (W : World) (g : Nat) (hg : g = W.heap.size) (p : α) (cs : Array Value) (t : Nat) (hK : d.K (W.alloc (.cells cs t)).drew p cs.toList) : d.C (W.alloc (.cells cs t)).drew (some ⟨g, 0, none⟩) [p].length [p] := by
  subst hg
  refine ⟨rfl, by simp, fun _ => ⟨_, rfl, fun j q hq => ?_⟩⟩
  have hl := d.K_len hK
  obtain ⟨rfl, rfl⟩ : j = 0 ∧ p = q := by
    cases j with
    | zero => simpa using hq
    | succ j => simp at hq
  refine ⟨cs.toList, hl, hK, fun i u hu => ?_⟩
  rw [add_plain]
  have := cell_of_row (W.alloc (.cells cs t)).drew W.heap.size (0 * d.sz + i) cs t (0, 0) (heap_alloc_new W _)
  rw [this]
  simpa using hu
theorem C_boxg {α : Type} (d : Kd α) (hsz : 0 < d.sz) (W : World) (g : Nat) (hg : g = W.heap.size) (p : α) (cs : Array Value) (t : Nat) (hK : d.K (W.alloc (.cells cs t)) p cs.toList) : d.C (W.alloc (.cells cs t)) (some ⟨g, 0, none⟩) [p].length [p] := by
  subst hg; exact C_box d hsz W p cs t hK
/-! ### cells are kept behind a call -/
theorem keep1 {W w2 : World} (hb : Below W.heap.size W w2) {a0 : Addr} {v0 : Value} (h : W.cell? a0 = some v0) : w2.cell? a0 = some v0 := pw_cell_below hb h
theorem keep2 {W w2 : World} (hb : Below W.heap.size W w2) {a0 a1 : Addr} {v0 v1 : Value} (h : W.cell? a0 = some v0 ∧ W.cell? a1 = some v1) : w2.cell? a0 = some v0 ∧ w2.cell? a1 = some v1 := ⟨pw_cell_below hb h.1, pw_cell_below hb h.2⟩
theorem keep3 {W w2 : World} (hb : Below W.heap.size W w2) {a0 a1 a2 : Addr} {v0 v1 v2 : Value} (h : W.cell? a0 = some v0 ∧ W.cell? a1 = some v1 ∧ W.cell? a2 = some v2) : w2.cell? a0 = some v0 ∧ w2.cell? a1 = some v1 ∧ w2.cell? a2 = some v2 := ⟨pw_cell_below hb h.1, pw_cell_below hb h.2.1, pw_cell_below hb h.2.2⟩
theorem keep4 {W w2 : World} (hb : Below W.heap.size W w2) {a0 a1 a2 a3 : Addr} {v0 v1 v2 v3 : Value} (h : W.cell? a0 = some v0 ∧ W.cell? a1 = some v1 ∧ W.cell? a2 = some v2 ∧ W.cell? a3 = some v3) : w2.cell? a0 = some v0 ∧ w2.cell? a1 = some v1 ∧ w2.cell? a2 = some v2 ∧ w2.cell? a3 = some v3 := ⟨pw_cell_below hb h.1, pw_cell_below hb h.2.1, pw_cell_below hb h.2.2.1, pw_cell_below hb h.2.2.2⟩
theorem keep5 {W w2 : World} (hb : Below W.heap.size W w2) {a0 a1 a2 a3 a4 : Addr} {v0 v1 v2 v3 v4 : Value} (h : W.cell? a0 = some v0 ∧ W.cell? a1 = some v1 ∧ W.cell? a2 = some v2 ∧ W.cell? a3 = some v3 ∧ W.cell? a4 = some v4) : w2.cell? a0 = some v0 ∧ w2.cell? a1 = some v1 ∧ w2.cell? a2 = some v2 ∧ w2.cell? a3 = some v3 ∧ w2.cell? a4 = some v4 := ⟨pw_cell_below hb h.1, pw_cell_below hb h.2.1, pw_cell_below hb h.2.2.1, pw_cell_below hb h.2.2.2.1, pw_cell_below hb h.2.2.2.2⟩
theorem keep6 {W w2 : World} (hb : Below W.heap.size W w2) {a0 a1 a2 a3 a4 a5 : Addr} {v0 v1 v2 v3 v4 v5 : Value} (h : W.cell? a0 = some v0 ∧ W.cell? a1 = some v1 ∧ W.cell? a2 = some v2 ∧ W.cell? a3 = some v3 ∧ W.cell? a4 = some v4 ∧ W.cell? a5 = some v5) : w2.cell? a0 = some v0 ∧ w2.cell? a1 = some v1 ∧ w2.cell? a2 = some v2 ∧ w2.cell? a3 = some v3 ∧ w2.cell? a4 = some v4 ∧ w2.cell? a5 = some v5 := ⟨pw_cell_below hb h.1, pw_cell_below hb h.2.1, pw_cell_below hb h.2.2.1, pw_cell_below hb h.2.2.2.1, pw_cell_below hb h.2.2.2.2.1, pw_cell_below hb h.2.2.2.2.2⟩
theorem keep7 {W w2 : World} (hb : Below W.heap.size W w2) {a0 a1 a2 a3 a4 a5 a6 : Addr} {v0 v1 v2 v3 v4 v5 v6 : Value} (h : W.cell? a0 = some v0 ∧ W.cell? a1 = some v1 ∧ W.cell? a2 = some v2 ∧ W.cell? a3 = some v3 ∧ W.cell? a4 = some v4 ∧ W.cell? a5 = some v5 ∧ W.cell? a6 = some v6) : w2.cell? a0 = some v0 ∧ w2.cell? a1 = some v1 ∧ w2.cell? a2 = some v2 ∧ w2.cell? a3 = some v3 ∧ w2.cell? a4 = some v4 ∧ w2.cell? a5 = some v5 ∧ w2.cell? a6 = some v6 := ⟨pw_cell_below hb h.1, pw_cell_below hb h.2.1, pw_cell_below hb h.2.2.1, pw_cell_below hb h.2.2.2.1, pw_cell_below hb h.2.2.2.2.1, pw_cell_below hb h.2.2.2.2.2.1, pw_cell_below hb h.2.2.2.2.2.2⟩
theorem keep8 {W w2 : World} (hb : Below W.heap.size W w2) {a0 a1 a2 a3 a4 a5 a6 a7 : Addr} {v0 v1 v2 v3 v4 v5 v6 v7 : Value} (h : W.cell? a0 = some v0 ∧ W.cell? a1 = some v1 ∧ W.cell? a2 = some v2 ∧ W.cell? a3 = some v3 ∧ W.cell? a4 = some v4 ∧ W.cell? a5 = some v5 ∧ W.cell? a6 = some v6 ∧ W.cell? a7 = some v7) : w2.cell? a0 = some v0 ∧ w2.cell? a1 = some v1 ∧ w2.cell? a2 = some v2 ∧ w2.cell? a3 = some v3 ∧ w2.cell? a4 = some v4 ∧ w2.cell? a5 = some v5 ∧ w2.cell? a6 = some v6 ∧ w2.cell? a7 = some v7 := ⟨pw_cell_below hb h.1, pw_cell_below hb h.2.1, pw_cell_below hb h.2.2.1, pw_cell_below hb h.2.2.2.1, pw_cell_below hb h.2.2.2.2.1, pw_cell_below hb h.2.2.2.2.2.1, pw_cell_below hb h.2.2.2.2.2.2.1, pw_cell_below hb h.2.2.2.2.2.2.2⟩
theorem keep9 {W w2 : World} (hb : Below W.heap.size W w2) {a0 a1 a2 a3 a4 a5 a6 a7 a8 : Addr} {v0 v1 v2 v3 v4 v5 v6 v7 v8 : Value} (h : W.cell? a0 = some v0 ∧ W.cell? a1 = some v1 ∧ W.cell? a2 = some v2 ∧ W.cell? a3 = some v3 ∧ W.cell? a4 = some v4 ∧ W.cell? a5 = some v5 ∧ W.cell? a6 = some v6 ∧ W.cell? a7 = some v7 ∧ W.cell? a8 = some v8) : w2.cell? a0 = some v0 ∧ w2.cell? a1 = some v1 ∧ w2.cell? a2 = some v2 ∧ w2.cell? a3 = some v3 ∧ w2.cell? a4 = some v4 ∧ w2.cell? a5 = some v5 ∧ w2.cell? a6 = some v6 ∧ w2.cell? a7 = some v7 ∧ w2.cell? a8 = some v8 := ⟨pw_cell_below hb h.1, pw_cell_below hb h.2.1, pw_cell_below hb h.2.2.1, pw_cell_below hb h.2.2.2.1, pw_cell_below hb h.2.2.2.2.1, pw_cell_below hb h.2.2.2.2.2.1, pw_cell_below hb h.2.2.2.2.2.2.1, pw_cell_below hb h.2.2.2.2.2.2.2.1, pw_cell_below hb h.2.2.2.2.2.2.2.2⟩
theorem keep10 {W w2 : World} (hb : Below W.heap.size W w2) {a0 a1 a2 a3 a4 a5 a6 a7 a8 a9 : Addr} {v0 v1 v2 v3 v4 v5 v6 v7 v8 v9 : Value} (h : W.cell? a0 = some v0 ∧ W.cell? a1 = some v1 ∧ W.cell? a2 = some v2 ∧ W.cell? a3 = some v3 ∧ W.cell? a4 = some v4 ∧ W.cell? a5 = some v5 ∧ W.cell? a6 = some v6 ∧ W.cell? a7 = some v7 ∧ W.cell? a8 = some v8 ∧ W.cell? a9 = some v9) : w2.cell? a0 = some v0 ∧ w2.cell? a1 = some v1 ∧ w2.cell? a2 = some v2 ∧ w2.cell? a3 = some v3 ∧ w2.cell? a4 = some v4 ∧ w2.cell? a5 = some v5 ∧ w2.cell? a6 = some v6 ∧ w2.cell? a7 = some v7 ∧ w2.cell? a8 = some v8 ∧ w2.cell? a9 = some v9 := ⟨pw_cell_below hb h.1, pw_cell_below hb h.2.1, pw_cell_below hb h.2.2.1, pw_cell_below hb h.2.2.2.1, pw_cell_below hb h.2.2.2.2.1, pw_cell_below hb h.2.2.2.2.2.1, pw_cell_below hb h.2.2.2.2.2.2.1, pw_cell_below hb h.2.2.2.2.2.2.2.1, pw_cell_below hb h.2.2.2.2.2.2.2.2.1, pw_cell_below hb h.2.2.2.2.2.2.2.2.2⟩
theorem keep11 {W w2 : World} (hb : Below W.heap.size W w2) {a0 a1 a2 a3 a4 a5 a6 a7 a8 a9 a10 : Addr} {v0 v1 v2 v3 v4 v5 v6 v7 v8 v9 v10 : Value} (h : W.cell? a0 = some v0 ∧ W.cell? a1 = some v1 ∧ W.cell? a2 = some v2 ∧ W.cell? a3 = some v3 ∧ W.cell? a4 = some v4 ∧ W.cell? a5 = some v5 ∧ W.cell? a6 = some v6 ∧ W.cell? a7 = some v7 ∧ W.cell? a8 = some v8 ∧ W.cell? a9 = some v9 ∧ W.cell? a10 = some v10) : w2.cell? a0 = some v0 ∧ w2.cell? a1 = some v1 ∧ w2.cell? a2 = some v2 ∧ w2.cell? a3 = some v3 ∧ w2.cell? a4 = some v4 ∧ w2.cell? a5 = some v5 ∧ w2.cell? a6 = some v6 ∧ w2.cell? a7 = some v7 ∧ w2.cell? a8 = some v8 ∧ w2.cell? a9 = some v9 ∧ w2.cell? a10 = some v10 := ⟨pw_cell_below hb h.1, pw_cell_below hb h.2.1, pw_cell_below hb h.2.2.1, pw_cell_below hb h.2.2.2.1, pw_cell_below hb h.2.2.2.2.1, pw_cell_below hb h.2.2.2.2.2.1, pw_cell_below hb h.2.2.2.2.2.2.1, pw_cell_below hb h.2.2.2.2.2.2.2.1, pw_cell_below hb h.2.2.2.2.2.2.2.2.1, pw_cell_below hb h.2.2.2.2.2.2.2.2.2.1, pw_cell_below hb h.2.2.2.2.2.2.2.2.2.2⟩
theorem keep12 {W w2 : World} (hb : Below W.heap.size W w2) {a0 a1 a2 a3 a4 a5 a6 a7 a8 a9 a10 a11 : Addr} {v0 v1 v2 v3 v4 v5 v6 v7 v8 v9 v10 v11 : Value} (h : W.cell? a0 = some v0 ∧ W.cell? a1 = some v1 ∧ W.cell? a2 = some v2 ∧ W.cell? a3 = some v3 ∧ W.cell? a4 = some v4 ∧ W.cell? a5 = some v5 ∧ W.cell? a6 = some v6 ∧ W.cell? a7 = some v7 ∧ W.cell? a8 = some v8 ∧ W.cell? a9 = some v9 ∧ W.cell? a10 = some v10 ∧ W.cell? a11 = some v11) : w2.cell? a0 = some v0 ∧ w2.cell? a1 = some v1 ∧ w2.cell? a2 = some v2 ∧ w2.cell? a3 = some v3 ∧ w2.cell? a4 = some v4 ∧ w2.cell? a5 = some v5 ∧ w2.cell? a6 = some v6 ∧ w2.cell? a7 = some v7 ∧ w2.cell? a8 = some v8 ∧ w2.cell? a9 = some v9 ∧ w2.cell? a10 = some v10 ∧ w2.cell? a11 = some v11 := ⟨pw_cell_below hb h.1, pw_cell_below hb h.2.1, pw_cell_below hb h.2.2.1, pw_cell_below hb h.2.2.2.1, pw_cell_below hb h.2.2.2.2.1, pw_cell_below hb h.2.2.2.2.2.1, pw_cell_below hb h.2.2.2.2.2.2.1, pw_cell_below hb h.2.2.2.2.2.2.2.1, pw_cell_below hb h.2.2.2.2.2.2.2.2.1, pw_cell_below hb h.2.2.2.2.2.2.2.2.2.1, pw_cell_below hb h.2.2.2.2.2.2.2.2.2.2.1, pw_cell_below hb h.2.2.2.2.2.2.2.2.2.2.2⟩

section
variable {P : Program} {ops : Array Oper} {Q : Exit → Act → World → Prop} {md : Region.Mode} {S : World → Prop}
/-- Take first what yields under S. -/
theorem takeY {oi : Oper} (i : Nat) (D : Option Tmp) {v : Value} {fuel : Nat} {listed : Array Bool} {a : Act} {w : World} (hi : ops[i]? = some oi) (hd : oi.dst = D)
    (hs : Region.noSelect ops = true) (hf : Region.free md ops listed i = true) (hr : (Region.ready md ops listed).contains i = true)
    (hQ : ∀ c a w, Q (.panic c) (a.put oi.dst v) w → Q (.panic c) a w) (hw : Region.wanted oi (yielded ops a.tmps) = true) (hy : ∀ w, S w → (execOp a.eval oi).run P w = .ok (.value v) w) (hS : S w)
    (h : wpAnyH P md ops Q S fuel (listed.setIfInBounds i true) (a.put D v) w) : wpAnyH P md ops Q S (fuel + 1) listed a w :=
  wpAnyH_take hi hs hf hr hQ (Or.inl ⟨hw, hy⟩) hS (by rw [hd]; exact h)
/-- Pass over what isn't wanted. -/
theorem takeN {oi : Oper} (i : Nat) (D : Option Tmp) {fuel : Nat} {listed : Array Bool} {a : Act} {w : World} (hi : ops[i]? = some oi) (hd : oi.dst = D)
    (hs : Region.noSelect ops = true) (hf : Region.free md ops listed i = true) (hr : (Region.ready md ops listed).contains i = true)
    (hQ : ∀ c a w, Q (.panic c) (a.put oi.dst undef) w → Q (.panic c) a w) (hw : Region.wanted oi (yielded ops a.tmps) = false) (hS : S w)
    (h : wpAnyH P md ops Q S fuel (listed.setIfInBounds i true) (a.put D undef) w) : wpAnyH P md ops Q S (fuel + 1) listed a w :=
  wpAnyH_take hi hs hf hr hQ (Or.inr ⟨hw, rfl⟩) hS (by rw [hd]; exact h)
end
/-! ### .. and what lay at the call's beginning -/
theorem keepB0 {w0 W w2 : World} (hb : Below W.heap.size W w2) (h : Below w0.heap.size w0 W) : Below w0.heap.size w0 w2 := h.trans (below_down hb h.size)
theorem keepB1 {w0 W w2 : World} (hb : Below W.heap.size W w2) {a0 : Addr} {v0 : Value} (h : W.cell? a0 = some v0 ∧ Below w0.heap.size w0 W) : w2.cell? a0 = some v0 ∧ Below w0.heap.size w0 w2 := ⟨pw_cell_below hb h.1, h.2.trans (below_down hb h.2.size)⟩
theorem keepB2 {w0 W w2 : World} (hb : Below W.heap.size W w2) {a0 a1 : Addr} {v0 v1 : Value} (h : W.cell? a0 = some v0 ∧ W.cell? a1 = some v1 ∧ Below w0.heap.size w0 W) : w2.cell? a0 = some v0 ∧ w2.cell? a1 = some v1 ∧ Below w0.heap.size w0 w2 := ⟨pw_cell_below hb h.1, pw_cell_below hb h.2.1, h.2.2.trans (below_down hb h.2.2.size)⟩
theorem keepB3 {w0 W w2 : World} (hb : Below W.heap.size W w2) {a0 a1 a2 : Addr} {v0 v1 v2 : Value} (h : W.cell? a0 = some v0 ∧ W.cell? a1 = some v1 ∧ W.cell? a2 = some v2 ∧ Below w0.heap.size w0 W) : w2.cell? a0 = some v0 ∧ w2.cell? a1 = some v1 ∧ w2.cell? a2 = some v2 ∧ Below w0.heap.size w0 w2 := ⟨pw_cell_below hb h.1, pw_cell_below hb h.2.1, pw_cell_below hb h.2.2.1, h.2.2.2.trans (below_down hb h.2.2.2.size)⟩
theorem keepB4 {w0 W w2 : World} (hb : Below W.heap.size W w2) {a0 a1 a2 a3 : Addr} {v0 v1 v2 v3 : Value} (h : W.cell? a0 = some v0 ∧ W.cell? a1 = some v1 ∧ W.cell? a2 = some v2 ∧ W.cell? a3 = some v3 ∧ Below w0.heap.size w0 W) : w2.cell? a0 = some v0 ∧ w2.cell? a1 = some v1 ∧ w2.cell? a2 = some v2 ∧ w2.cell? a3 = some v3 ∧ Below w0.heap.size w0 w2 := ⟨pw_cell_below hb h.1, pw_cell_below hb h.2.1, pw_cell_below hb h.2.2.1, pw_cell_below hb h.2.2.2.1, h.2.2.2.2.trans (below_down hb h.2.2.2.2.size)⟩
theorem keepB5 {w0 W w2 : World} (hb : Below W.heap.size W w2) {a0 a1 a2 a3 a4 : Addr} {v0 v1 v2 v3 v4 : Value} (h : W.cell? a0 = some v0 ∧ W.cell? a1 = some v1 ∧ W.cell? a2 = some v2 ∧ W.cell? a3 = some v3 ∧ W.cell? a4 = some v4 ∧ Below w0.heap.size w0 W) : w2.cell? a0 = some v0 ∧ w2.cell? a1 = some v1 ∧ w2.cell? a2 = some v2 ∧ w2.cell? a3 = some v3 ∧ w2.cell? a4 = some v4 ∧ Below w0.heap.size w0 w2 := ⟨pw_cell_below hb h.1, pw_cell_below hb h.2.1, pw_cell_below hb h.2.2.1, pw_cell_below hb h.2.2.2.1, pw_cell_below hb h.2.2.2.2.1, h.2.2.2.2.2.trans (below_down hb h.2.2.2.2.2.size)⟩
theorem keepB6 {w0 W w2 : World} (hb : Below W.heap.size W w2) {a0 a1 a2 a3 a4 a5 : Addr} {v0 v1 v2 v3 v4 v5 : Value} (h : W.cell? a0 = some v0 ∧ W.cell? a1 = some v1 ∧ W.cell? a2 = some v2 ∧ W.cell? a3 = some v3 ∧ W.cell? a4 = some v4 ∧ W.cell? a5 = some v5 ∧ Below w0.heap.size w0 W) : w2.cell? a0 = some v0 ∧ w2.cell? a1 = some v1 ∧ w2.cell? a2 = some v2 ∧ w2.cell? a3 = some v3 ∧ w2.cell? a4 = some v4 ∧ w2.cell? a5 = some v5 ∧ Below w0.heap.size w0 w2 := ⟨pw_cell_below hb h.1, pw_cell_below hb h.2.1, pw_cell_below hb h.2.2.1, pw_cell_below hb h.2.2.2.1, pw_cell_below hb h.2.2.2.2.1, pw_cell_below hb h.2.2.2.2.2.1, h.2.2.2.2.2.2.trans (below_down hb h.2.2.2.2.2.2.size)⟩
theorem keepB7 {w0 W w2 : World} (hb : Below W.heap.size W w2) {a0 a1 a2 a3 a4 a5 a6 : Addr} {v0 v1 v2 v3 v4 v5 v6 : Value} (h : W.cell? a0 = some v0 ∧ W.cell? a1 = some v1 ∧ W.cell? a2 = some v2 ∧ W.cell? a3 = some v3 ∧ W.cell? a4 = some v4 ∧ W.cell? a5 = some v5 ∧ W.cell? a6 = some v6 ∧ Below w0.heap.size w0 W) : w2.cell? a0 = some v0 ∧ w2.cell? a1 = some v1 ∧ w2.cell? a2 = some v2 ∧ w2.cell? a3 = some v3 ∧ w2.cell? a4 = some v4 ∧ w2.cell? a5 = some v5 ∧ w2.cell? a6 = some v6 ∧ Below w0.heap.size w0 w2 := ⟨pw_cell_below hb h.1, pw_cell_below hb h.2.1, pw_cell_below hb h.2.2.1, pw_cell_below hb h.2.2.2.1, pw_cell_below hb h.2.2.2.2.1, pw_cell_below hb h.2.2.2.2.2.1, pw_cell_below hb h.2.2.2.2.2.2.1, h.2.2.2.2.2.2.2.trans (below_down hb h.2.2.2.2.2.2.2.size)⟩
theorem keepB8 {w0 W w2 : World} (hb : Below W.heap.size W w2) {a0 a1 a2 a3 a4 a5 a6 a7 : Addr} {v0 v1 v2 v3 v4 v5 v6 v7 : Value} (h : W.cell? a0 = some v0 ∧ W.cell? a1 = some v1 ∧ W.cell? a2 = some v2 ∧ W.cell? a3 = some v3 ∧ W.cell? a4 = some v4 ∧ W.cell? a5 = some v5 ∧ W.cell? a6 = some v6 ∧ W.cell? a7 = some v7 ∧ Below w0.heap.size w0 W) : w2.cell? a0 = some v0 ∧ w2.cell? a1 = some v1 ∧ w2.cell? a2 = some v2 ∧ w2.cell? a3 = some v3 ∧ w2.cell? a4 = some v4 ∧ w2.cell? a5 = some v5 ∧ w2.cell? a6 = some v6 ∧ w2.cell? a7 = some v7 ∧ Below w0.heap.size w0 w2 := ⟨pw_cell_below hb h.1, pw_cell_below hb h.2.1, pw_cell_below hb h.2.2.1, pw_cell_below hb h.2.2.2.1, pw_cell_below hb h.2.2.2.2.1, pw_cell_below hb h.2.2.2.2.2.1, pw_cell_below hb h.2.2.2.2.2.2.1, pw_cell_below hb h.2.2.2.2.2.2.2.1, h.2.2.2.2.2.2.2.2.trans (below_down hb h.2.2.2.2.2.2.2.2.size)⟩
theorem keepB9 {w0 W w2 : World} (hb : Below W.heap.size W w2) {a0 a1 a2 a3 a4 a5 a6 a7 a8 : Addr} {v0 v1 v2 v3 v4 v5 v6 v7 v8 : Value} (h : W.cell? a0 = some v0 ∧ W.cell? a1 = some v1 ∧ W.cell? a2 = some v2 ∧ W.cell? a3 = some v3 ∧ W.cell? a4 = some v4 ∧ W.cell? a5 = some v5 ∧ W.cell? a6 = some v6 ∧ W.cell? a7 = some v7 ∧ W.cell? a8 = some v8 ∧ Below w0.heap.size w0 W) : w2.cell? a0 = some v0 ∧ w2.cell? a1 = some v1 ∧ w2.cell? a2 = some v2 ∧ w2.cell? a3 = some v3 ∧ w2.cell? a4 = some v4 ∧ w2.cell? a5 = some v5 ∧ w2.cell? a6 = some v6 ∧ w2.cell? a7 = some v7 ∧ w2.cell? a8 = some v8 ∧ Below w0.heap.size w0 w2 := ⟨pw_cell_below hb h.1, pw_cell_below hb h.2.1, pw_cell_below hb h.2.2.1, pw_cell_below hb h.2.2.2.1, pw_cell_below hb h.2.2.2.2.1, pw_cell_below hb h.2.2.2.2.2.1, pw_cell_below hb h.2.2.2.2.2.2.1, pw_cell_below hb h.2.2.2.2.2.2.2.1, pw_cell_below hb h.2.2.2.2.2.2.2.2.1, h.2.2.2.2.2.2.2.2.2.trans (below_down hb h.2.2.2.2.2.2.2.2.2.size)⟩
theorem keepB10 {w0 W w2 : World} (hb : Below W.heap.size W w2) {a0 a1 a2 a3 a4 a5 a6 a7 a8 a9 : Addr} {v0 v1 v2 v3 v4 v5 v6 v7 v8 v9 : Value} (h : W.cell? a0 = some v0 ∧ W.cell? a1 = some v1 ∧ W.cell? a2 = some v2 ∧ W.cell? a3 = some v3 ∧ W.cell? a4 = some v4 ∧ W.cell? a5 = some v5 ∧ W.cell? a6 = some v6 ∧ W.cell? a7 = some v7 ∧ W.cell? a8 = some v8 ∧ W.cell? a9 = some v9 ∧ Below w0.heap.size w0 W) : w2.cell? a0 = some v0 ∧ w2.cell? a1 = some v1 ∧ w2.cell? a2 = some v2 ∧ w2.cell? a3 = some v3 ∧ w2.cell? a4 = some v4 ∧ w2.cell? a5 = some v5 ∧ w2.cell? a6 = some v6 ∧ w2.cell? a7 = some v7 ∧ w2.cell? a8 = some v8 ∧ w2.cell? a9 = some v9 ∧ Below w0.heap.size w0 w2 := ⟨pw_cell_below hb h.1, pw_cell_below hb h.2.1, pw_cell_below hb h.2.2.1, pw_cell_below hb h.2.2.2.1, pw_cell_below hb h.2.2.2.2.1, pw_cell_below hb h.2.2.2.2.2.1, pw_cell_below hb h.2.2.2.2.2.2.1, pw_cell_below hb h.2.2.2.2.2.2.2.1, pw_cell_below hb h.2.2.2.2.2.2.2.2.1, pw_cell_below hb h.2.2.2.2.2.2.2.2.2.1, h.2.2.2.2.2.2.2.2.2.2.trans (below_down hb h.2.2.2.2.2.2.2.2.2.2.size)⟩
theorem keepB11 {w0 W w2 : World} (hb : Below W.heap.size W w2) {a0 a1 a2 a3 a4 a5 a6 a7 a8 a9 a10 : Addr} {v0 v1 v2 v3 v4 v5 v6 v7 v8 v9 v10 : Value} (h : W.cell? a0 = some v0 ∧ W.cell? a1 = some v1 ∧ W.cell? a2 = some v2 ∧ W.cell? a3 = some v3 ∧ W.cell? a4 = some v4 ∧ W.cell? a5 = some v5 ∧ W.cell? a6 = some v6 ∧ W.cell? a7 = some v7 ∧ W.cell? a8 = some v8 ∧ W.cell? a9 = some v9 ∧ W.cell? a10 = some v10 ∧ Below w0.heap.size w0 W) : w2.cell? a0 = some v0 ∧ w2.cell? a1 = some v1 ∧ w2.cell? a2 = some v2 ∧ w2.cell? a3 = some v3 ∧ w2.cell? a4 = some v4 ∧ w2.cell? a5 = some v5 ∧ w2.cell? a6 = some v6 ∧ w2.cell? a7 = some v7 ∧ w2.cell? a8 = some v8 ∧ w2.cell? a9 = some v9 ∧ w2.cell? a10 = some v10 ∧ Below w0.heap.size w0 w2 := ⟨pw_cell_below hb h.1, pw_cell_below hb h.2.1, pw_cell_below hb h.2.2.1, pw_cell_below hb h.2.2.2.1, pw_cell_below hb h.2.2.2.2.1, pw_cell_below hb h.2.2.2.2.2.1, pw_cell_below hb h.2.2.2.2.2.2.1, pw_cell_below hb h.2.2.2.2.2.2.2.1, pw_cell_below hb h.2.2.2.2.2.2.2.2.1, pw_cell_below hb h.2.2.2.2.2.2.2.2.2.1, pw_cell_below hb h.2.2.2.2.2.2.2.2.2.2.1, h.2.2.2.2.2.2.2.2.2.2.2.trans (below_down hb h.2.2.2.2.2.2.2.2.2.2.2.size)⟩
theorem keepB12 {w0 W w2 : World} (hb : Below W.heap.size W w2) {a0 a1 a2 a3 a4 a5 a6 a7 a8 a9 a10 a11 : Addr} {v0 v1 v2 v3 v4 v5 v6 v7 v8 v9 v10 v11 : Value} (h : W.cell? a0 = some v0 ∧ W.cell? a1 = some v1 ∧ W.cell? a2 = some v2 ∧ W.cell? a3 = some v3 ∧ W.cell? a4 = some v4 ∧ W.cell? a5 = some v5 ∧ W.cell? a6 = some v6 ∧ W.cell? a7 = some v7 ∧ W.cell? a8 = some v8 ∧ W.cell? a9 = some v9 ∧ W.cell? a10 = some v10 ∧ W.cell? a11 = some v11 ∧ Below w0.heap.size w0 W) : w2.cell? a0 = some v0 ∧ w2.cell? a1 = some v1 ∧ w2.cell? a2 = some v2 ∧ w2.cell? a3 = some v3 ∧ w2.cell? a4 = some v4 ∧ w2.cell? a5 = some v5 ∧ w2.cell? a6 = some v6 ∧ w2.cell? a7 = some v7 ∧ w2.cell? a8 = some v8 ∧ w2.cell? a9 = some v9 ∧ w2.cell? a10 = some v10 ∧ w2.cell? a11 = some v11 ∧ Below w0.heap.size w0 w2 := ⟨pw_cell_below hb h.1, pw_cell_below hb h.2.1, pw_cell_below hb h.2.2.1, pw_cell_below hb h.2.2.2.1, pw_cell_below hb h.2.2.2.2.1, pw_cell_below hb h.2.2.2.2.2.1, pw_cell_below hb h.2.2.2.2.2.2.1, pw_cell_below hb h.2.2.2.2.2.2.2.1, pw_cell_below hb h.2.2.2.2.2.2.2.2.1, pw_cell_below hb h.2.2.2.2.2.2.2.2.2.1, pw_cell_below hb h.2.2.2.2.2.2.2.2.2.2.1, pw_cell_below hb h.2.2.2.2.2.2.2.2.2.2.2.1, h.2.2.2.2.2.2.2.2.2.2.2.2.trans (below_down hb h.2.2.2.2.2.2.2.2.2.2.2.2.size)⟩
theorem below_al (W : World) (o : Obj) : Below W.heap.size W (W.alloc o) := (Below.refl _ _).alloc (Nat.le_refl _) _
end Go.Proofs.Ytonbnlfijmapfaa
/- Appends onto a row of the call's own, at the operation itself: one element, a row, a text. No condition but on sizes. -/
namespace Go.Proofs.Ytonbnlfijmapfaa
open Go.RowKit Go.Shelf Go.Proofs.YtonbnlfijmapfaaW.PrintWords
set_option linter.unusedVariables false
set_option linter.unusedSimpArgs false

section
variable {P : Program} {α : Type} {enc : α → Value} {h1 : ∀ x : α, (enc x).oneCell' = true}
/-- The run of 'append(v, ys...)', ys a row of scalars that is read. -/
theorem run_app_row {t ty e : TypeId} {z : Value} {bytes base : Nat} {W : World} {ok : Nat → Prop} {v : Value} {xs ys : List α} (HO : (Kd.scalar enc h1).R e W base ok v xs) {A : Option Addr} {m c : Nat} (HR : (Kd.scalar enc h1).C W A m ys)
    (ht : P.underlying t = some (.slice e)) (hinfo : (P.info? e).map (fun i => (i.zero, i.size, i.bytes)) = some (some z, 1, bytes)) (hz : z.cells.size = 1) (hb0 : 0 < bytes)
    (hfresh : ∀ k, W.heap.size ≤ k → ok k) (hbase : base ≤ W.heap.size) (hl : (xs.length + m) * bytes ≤ 140737488355328) :
    ∃ v1 w1, (Builtin.append_ #[t, t] ty #[v, .slice A m c]).run P W = .ok v1 w1 ∧ (Kd.scalar enc h1).R e w1 base ok v1 (xs ++ ys) ∧ Below base W w1 ∧ W.grownBy w1 v.ownBlock ∧ (v1.ownBlock = v.ownBlock ∨ ∃ b, v1.ownBlock = some b ∧ W.heap.size ≤ b) := by
  obtain ⟨i0, hi, hzz⟩ := Option.map_eq_some_iff.1 hinfo
  simp only [Prod.mk.injEq] at hzz
  obtain ⟨hz0, hz1, hz2⟩ := hzz
  have hm : ys.length = m := HR.1
  have hlen : xs.length + m ≤ 140737488355328 := Nat.le_trans (Nat.le_mul_of_pos_right _ hb0) hl
  have HW := Kd.own_of_R HO
  have fin : ∀ v1 w1, (Builtin.append_ #[t, t] ty #[v, .slice A m c]).run P W = .ok v1 w1 → w1.ownsRow base e 1 v1 (xs ++ ys).length (encs enc (xs ++ ys)) → W.grownBy w1 v.ownBlock → (v1.ownBlock = v.ownBlock ∨ v1.ownBlock = some W.heap.size) →
      ∃ v1 w1, (Builtin.append_ #[t, t] ty #[v, .slice A m c]).run P W = .ok v1 w1 ∧ (Kd.scalar enc h1).R e w1 base ok v1 (xs ++ ys) ∧ Below base W w1 ∧ W.grownBy w1 v.ownBlock ∧ (v1.ownBlock = v.ownBlock ∨ ∃ b, v1.ownBlock = some b ∧ W.heap.size ≤ b) := by
    intro v1 w1 hr hown hg hat
    refine ⟨v1, w1, hr, Kd.R_of_own hown (fun k hk => ?_), (Below.refl base W).grown hg hbase (own_base HW), hg, hat.imp id (fun h => ⟨_, h, Nat.le_refl _⟩)⟩
    rcases hat with e1 | e1
    · exact HO.1 k (by rw [← e1]; exact hk)
    · rw [e1] at hk; injection hk with hk; subst hk; exact hfresh _ (Nat.le_refl _)
  rcases A with _ | ad
  · have h0 : m = 0 := by
      rcases Nat.eq_zero_or_pos m with h0 | h0
      · exact h0
      · obtain ⟨ad, h, _⟩ := HR.2.2 h0; cases h
    subst h0
    obtain rfl : ys = [] := List.eq_nil_of_length_eq_zero hm
    refine fin v W ?_ (by simpa using HW) (World.grownBy.refl W _) (.inl rfl)
    rcases HW.2 with ⟨rfl, hn⟩ | ⟨g, cap, cur, rfl, _, _, hnc, _⟩
    · simp [Builtin.append_, run_underlying ht, sizeOf, typeInfo, hi, Builtin.lenOf, Builtin.firstCells]
    · simp [Builtin.append_, run_underlying ht, sizeOf, typeInfo, hi, Builtin.lenOf, Builtin.firstCells, hnc, storeCells]
  · have hcells : ∀ j u, (encs enc ys)[j]? = some u → W.cell? (ad.add j) = some u := by
      intro j u hu
      have hj : j < ys.length := by
        rcases Nat.lt_or_ge j ys.length with h | h
        · exact h
        · rw [List.getElem?_eq_none (by rw [encs_length]; omega)] at hu; cases hu
      obtain ⟨ad', e1, hc⟩ := (Kd.reads_of_C (d := ys[j]) HR).2.2 (by omega)
      injection e1 with e1
      subst e1
      rw [hc j (by omega)]
      rw [← hu, encs_get (d := ys[j]) ys j hj]
    obtain ⟨v1, w1, hr, hown, hg, _, hat⟩ := run_append_own_at (P := P) W base t ty e i0 z 1 bytes ht hi hz0 hz1 hz2 hz (by omega) v xs.length (encs enc xs) HW ad m c (encs enc ys) (by rw [encs_length]; omega) hcells (by
      intro u hu; simp only [encs, List.mem_map] at hu; obtain ⟨y, _, rfl⟩ := hu; exact h1 y) (by simp only [maxLen]; omega) hl hbase
    exact fin v1 w1 hr (by rw [encs_append, List.length_append, hm]; exact hown) hg hat

theorem run_app_str {t u ty e : TypeId} {base : Nat} {W : World} {v : Value} {xs : List Int} (HO : (Kd.int .u8).R e W base (fun _ => True) v xs) (y : ByteArray)
    (ht : P.underlying t = some (.slice e)) (hu : P.underlying u = some .string) (hinfo : (P.info? e).map (fun i => (i.zero, i.size, i.bytes)) = some (some (.int .u8 0), 1, 1)) (hbase : base ≤ W.heap.size) (hl : xs.length + y.size ≤ 140737488355328) :
    ∃ v1 w1, (Builtin.append_ #[t, u] ty #[v, .string y]).run P W = .ok v1 w1 ∧ (Kd.int .u8).R e w1 base (fun _ => True) v1 (xs ++ bytesOf y) ∧ Below base W w1 ∧ W.grownBy w1 v.ownBlock := by
  obtain ⟨i0, hi, hzz⟩ := Option.map_eq_some_iff.1 hinfo
  simp only [Prod.mk.injEq] at hzz
  obtain ⟨hz0, hz1, hz2⟩ := hzz
  have HW := Kd.own_of_R HO
  obtain ⟨v1, w1, hr, hown, hg, _⟩ := Lib.run_append_own_string (P := P) W base t u ty e i0 ht hu hi hz0 hz1 hz2 v xs.length _ HW y (by simp only [maxLen]; omega) hl hbase
  refine ⟨v1, w1, hr, Kd.R_of_own (by
    have hl2 : (xs ++ bytesOf y).length = xs.length + y.size := by rw [List.length_append, bytesOf_length]
    rw [hl2, encs_append]
    have : encs (Value.int .u8) (bytesOf y) = Lib.strCells y := by simp [encs, bytesOf, Lib.strCells]
    rw [this]; exact hown) (fun _ _ => trivial), (Below.refl base W).grown hg hbase (own_base HW), hg⟩

/-- The run of 'append(v, x)', x in its box. -/
theorem run_app_one {d : Kd α} {base e : Nat} {W : World} {ok : Nat → Prop} {v : Value} {xs : List α} (HO : d.R e W base ok v xs) {z : Value} {bytes : Nat}
    (hinfo : (P.info? e).map (fun i => (i.zero, i.size, i.bytes)) = some (some z, d.sz, bytes)) {t ty : TypeId} (ht : P.underlying t = some (.slice e)) {p : α} {cs : List Value}
    (hp : d.M W base (fun k => ok k ∧ some k ≠ v.ownBlock) p cs) (hfresh : ∀ k, W.heap.size ≤ k → ok k) (hbase : base ≤ W.heap.size) (hl : (xs.length + 1) * bytes ≤ 140737488355328)
    (hz : z.cells.size = d.sz) (hs0 : 0 < d.sz) (hb0 : 0 < bytes) :
    ∃ v1 w1, (Builtin.append_ #[t, t] ty #[v, .slice (some ⟨W.heap.size, 0, none⟩) 1 1]).run P (W.alloc (.cells cs.toArray e)) = .ok v1 w1 ∧ d.R e w1 base ok v1 (xs ++ [p]) ∧ Below base W w1 ∧ W.grownBy w1 v.ownBlock ∧ (v1.ownBlock = v.ownBlock ∨ ∃ b, v1.ownBlock = some b ∧ W.heap.size ≤ b) := by
  obtain ⟨i0, hi, hzz⟩ := Option.map_eq_some_iff.1 hinfo
  simp only [Prod.mk.injEq] at hzz
  obtain ⟨hz0, hz1, hz2⟩ := hzz
  have hlen : xs.length + 1 ≤ 140737488355328 := Nat.le_trans (Nat.le_mul_of_pos_right _ hb0) hl
  obtain ⟨h0, inner, hown, hr⟩ := HO
  have hys : cs.length = d.sz := d.K_len (d.K_of_M hp)
  obtain ⟨v1, w1, hr1, hown1, hg, _, hat⟩ := run_append_own_at (P := P) (W.alloc (.cells cs.toArray e)) base t ty e i0 z d.sz bytes ht hi hz0 hz1 hz2 hz hs0 v xs.length inner (hown.alloc _) ⟨W.heap.size, 0, none⟩ 1 1 cs (by rw [hys]; simp)
    (by simpa using World.news_of_block (cs := cs.toArray) (t := e) (fr := (0, 0)) (heap_alloc_new W (.cells cs.toArray e))) (d.K_one (d.K_of_M hp)) (by simp only [maxLen]; omega) hl (by simp; omega)
  have hat' : v1.ownBlock = v.ownBlock ∨ ∃ b, v1.ownBlock = some b ∧ W.heap.size ≤ b := by
    rcases hat with hat | hat
    · exact .inl hat
    · exact .inr ⟨_, hat, by simp⟩
  have hg' := World.grownBy.trans (World.grownBy_alloc W _ _) hg
  exact ⟨v1, w1, hr1, Kd.R_appended h0 hr hp (fun _ hk => hk) hfresh hown1 hg' hat', ((Below.refl base W).alloc hbase _).grown hg (by simp; omega) (own_base hown), hg', hat'⟩
end

section
variable {P : Program} {ops : Array Oper} {rest : List Oper} {o : Oper} {a : Act} {Q : Exit → Act → World → Prop} {K : Act → World → Prop}
/-- An append whose run is known, at the operation. -/
theorem wp_app {s x : Operand} {t u : TypeId} {v y : Value} {W w1 : World} {v1 : Value} (ho : o.op = .call { callee := .builtin .append, args := #[s, x], argTypes := #[t, u] }) (hs : a.eval s = v) (hx : a.eval x = y)
    (hr : (Builtin.append_ #[t, u] o.type #[v, y]).run P W = .ok v1 w1) (h : K (a.put o.dst v1) w1) : o.wp P a W K Q := by
  unfold Oper.wp execOp
  simp only [ho, resolve, invoke, builtin, Sem.run_bind, Sem.run_pure, Result.andThen_ok, List.map_toArray, List.map_cons, List.map_nil, hs, hx, hr]
  exact h
theorem list_app {s x : Operand} {t u : TypeId} {v y : Value} {W w1 : World} {v1 : Value} (hgd : o.guard = none) (ho : o.op = .call { callee := .builtin .append, args := #[s, x], argTypes := #[t, u] }) (hs : a.eval s = v) (hx : a.eval x = y)
    (hr : (Builtin.append_ #[t, u] o.type #[v, y]).run P W = .ok v1 w1) (h : wpList P ops Q rest (a.put o.dst v1) w1) : wpList P ops Q (o :: rest) a W :=
  wpList_plain hgd fun _ hK => wp_app ho hs hx hr (hK _ _ h)
theorem step_app {s x : Operand} {t u : TypeId} {v y : Value} {W w1 : World} {v1 : Value} (hw : Region.wanted o (yielded ops a.tmps) = true) (ho : o.op = .call { callee := .builtin .append, args := #[s, x], argTypes := #[t, u] }) (hs : a.eval s = v) (hx : a.eval x = y)
    (hr : (Builtin.append_ #[t, u] o.type #[v, y]).run P W = .ok v1 w1) (h : K (a.put o.dst v1) w1) :
    if Region.wanted o (yielded ops a.tmps) = true then Oper.wp P o a W K Q else K (a.put o.dst undef) W := by
  rw [if_pos hw]; exact wp_app ho hs hx hr h
end
theorem R_box1 {W : World} {base : Nat} {T : Nat} (x : Int) (k : IntKind) (hb : base ≤ W.heap.size) : (Kd.int k).R T (W.alloc (.cells #[.int k x] T)) base (fun _ => True) (.slice (some ⟨W.heap.size, 0, none⟩) 1 1) [x] :=
  Kd.R_of_own (own_lit_of (enc := Value.int k) W base T [x] hb (by simp)) (fun _ _ => trivial)
theorem R_boxes {W : World} {base : Nat} {T : Nat} (xs : List Int) (k : IntKind) (hb : base ≤ W.heap.size) (hm : xs.length ≤ 9223372036854775807) : (Kd.int k).R T (W.alloc (.cells (encs (Value.int k) xs).toArray T)) base (fun _ => True) (.slice (some ⟨W.heap.size, 0, none⟩) xs.length xs.length) xs :=
  Kd.R_of_own (own_lit_of (enc := Value.int k) W base T xs hb hm) (fun _ _ => trivial)
theorem C_boxes {W : World} {T : Nat} (xs : List Int) (k : IntKind) (hm : xs.length ≤ 9223372036854775807) : (Kd.int k).C (W.alloc (.cells (encs (Value.int k) xs).toArray T)) (some ⟨W.heap.size, 0, none⟩) xs.length xs :=
  (Kd.R_reads' (R_boxes (base := W.heap.size) (T := T) xs k (Nat.le_refl _) hm)).2.2
end Go.Proofs.Ytonbnlfijmapfaa
/- Boxes beside a row that grows: a block's object is kept. No condition. -/
namespace Go.Proofs.Ytonbnlfijmapfaa
open Go.RowKit Go.Shelf Go.Proofs.YtonbnlfijmapfaaW.PrintWords
set_option linter.unusedVariables false
set_option linter.unusedSimpArgs false

/-- A block and what lies in it. -/
def Blk (w : World) (b : Nat) (cs : Array Value) (t : Nat) : Prop := w.heap[b]? = some (.cells cs t (0, 0))
theorem blk_lt {w : World} {b : Nat} {cs : Array Value} {t : Nat} (h : Blk w b cs t) : b < w.heap.size := by
  rcases Nat.lt_or_ge b w.heap.size with h2 | h2
  · exact h2
  · rw [Blk, Array.getElem?_eq_none h2] at h; cases h
theorem blk_new (w : World) (cs : Array Value) (t : Nat) : Blk (w.alloc (.cells cs t)) w.heap.size cs t := heap_alloc_new w _
theorem blk_below {w w' : World} {b : Nat} {cs : Array Value} {t : Nat} (hb : Below w.heap.size w w') (h : Blk w b cs t) : Blk w' b cs t := (hb.block b (blk_lt h)).trans h
theorem blk_drew {w : World} {b : Nat} {cs : Array Value} {t : Nat} (h : Blk w b cs t) : Blk w.drew b cs t := h
theorem blk_alloc {w : World} {b : Nat} {cs : Array Value} {t : Nat} (h : Blk w b cs t) (o : Obj) : Blk (w.alloc o) b cs t := blk_below (below_al w o) h
theorem blk_cell {w : World} {b : Nat} {cs : Array Value} {t : Nat} (h : Blk w b cs t) (o : Nat) : w.cell? ⟨b, o, none⟩ = cs[o]? := cell_of_row w b o cs t (0, 0) h
theorem blk_grown {w w' : World} {b : Nat} {cs : Array Value} {t : Nat} (h : Blk w b cs t) {α : Type} {d : Kd α} {T base : Nat} {ok : Nat → Prop} {v : Value} {xs : List α} (hR : d.R T w base ok v xs) (hg : w.grownBy w' v.ownBlock) (hT : t ≠ T) : Blk w' b cs t := by
  refine (hg.block b (blk_lt h) (fun e => ?_)).trans h
  obtain ⟨inner, ho⟩ := Kd.R_own hR
  obtain ⟨cells, hc⟩ := own_typed ho b e.symm
  rw [Blk, hc] at h
  injection h with h; injection h with _ h; exact hT h.symm
theorem C_boxesg {W : World} {T g : Nat} (hg : g = W.heap.size) (xs : List Int) (k : IntKind) (hm : xs.length ≤ 9223372036854775807) : (Kd.int k).C (W.alloc (.cells (encs (Value.int k) xs).toArray T)) (some ⟨g, 0, none⟩) xs.length xs := by
  subst hg; exact C_boxes xs k hm
theorem R_beside {α β : Type} {d : Kd α} {d' : Kd β} {W w' : World} {T T' base base' : Nat} {ok ok' : Nat → Prop} {v v' : Value} {xs : List α} {ys : List β} (h : d.R T W base ok v xs) (hE : d.E = []) (hR : d'.R T' W base' ok' v' ys) (hg : W.grownBy w' v'.ownBlock) (hT : T ≠ T') : d.R T w' base ok v xs := by
  refine Kd.R_grown2 h hE hg (fun k hk e => ?_)
  obtain ⟨i1, h1⟩ := Kd.R_own h
  obtain ⟨i2, h2⟩ := Kd.R_own hR
  obtain ⟨c1, e1⟩ := own_typed h1 k e.symm
  obtain ⟨c2, e2⟩ := own_typed h2 k hk
  rw [e1] at e2; injection e2 with e2; injection e2 with _ e2; exact hT e2
/-- A row's literal. -/
theorem R_lits {α : Type} (d : Kd α) {W : World} {base T : Nat} (xs : List α) (cs : Array Value) (hrep : Reps (d.M W base (fun _ => True)) d.sz xs cs.toList) (hb : base ≤ W.heap.size) (hm : xs.length ≤ 9223372036854775807) : d.R T (W.alloc (.cells cs T)) base (fun _ => True) (.slice (some ⟨W.heap.size, 0, none⟩) xs.length xs.length) xs := by
  refine ⟨fun _ _ => trivial, cs.toList, ?_, ?_⟩
  · have h2 := World.ownsRow_lit (base := base) (e := T) (size := d.sz) W cs xs.length hb (by simpa [maxLen] using hm) (by simpa using hrep.1)
    simpa using h2
  · refine hrep.imp_ (fun p c hp => d.M_mono (fun k hk => ⟨trivial, fun he => ?_⟩) (Kd.M_below (d.M_bound hp) (below_al _ _)))
    have h3 : k = W.heap.size := by simpa [Value.ownBlock] using he
    have := hk.2.2.1
    omega
theorem R_boxd {α : Type} (d : Kd α) {W : World} {base T : Nat} (x : α) (cs : Array Value) (hM : d.M W base (fun _ => True) x cs.toList) (hb : base ≤ W.heap.size) : d.R T (W.alloc (.cells cs T)) base (fun _ => True) (.slice (some ⟨W.heap.size, 0, none⟩) 1 1) [x] := by
  have hl := d.K_len (d.K_of_M hM)
  refine R_lits d [x] cs ⟨by simpa using hl, fun j p hj => ?_⟩ hb (by simp)
  obtain ⟨rfl, rfl⟩ : j = 0 ∧ p = x := by
    cases j with
    | zero => exact ⟨rfl, by simpa using hj.symm⟩
    | succ j => simp at hj
  rw [Nat.zero_mul, List.drop_zero, List.take_of_length_le (by omega)]; exact hM
theorem info_Entry : (Try.prog.info? 39).map (fun i => (i.zero, i.size, i.bytes)) = some (some (.agg #[.string ⟨#[]⟩, .string ⟨#[]⟩]), 2, 32) := by kernel_rfl
end Go.Proofs.Ytonbnlfijmapfaa
/- Small laws: a call that only reads, behind draws. No condition. -/
namespace Go.Proofs.Ytonbnlfijmapfaa
open Go.RowKit Go.Shelf Go.Proofs.YtonbnlfijmapfaaW.PrintWords
set_option linter.unusedVariables false
set_option linter.unusedSimpArgs false

/-- A contract that leaves the world alone, behind draws that were joined. -/
theorem quiet_joined {P : Program} {f : FuncId} {args : Array Value} {w : World} {a n : Nat} {v : Value} (c : ∀ W : World, Calls P f args W fun e w' => e = .returned v ∧ W = w') :
    Calls P f args (w.drewN (a + n)) fun e w'' => e = .returned v ∧ ∃ m, w'' = w.drewN (a + m) :=
  (c _).mono fun _ _ ⟨he, hm⟩ => ⟨he, n, hm.symm⟩
theorem quiet_once {P : Program} {f : FuncId} {args : Array Value} {w : World} {n : Nat} {v : Value} (c : ∀ W : World, Calls P f args W fun e w' => e = .returned v ∧ W = w') :
    Calls P f args (w.drewN n) fun e w'' => e = .returned v ∧ ∃ m, w'' = w.drewN m :=
  (c _).mono fun _ _ ⟨he, hm⟩ => ⟨he, n, hm.symm⟩
theorem R_box1g {W : World} {base : Nat} {T g : Nat} (hg : g = W.heap.size) (x : Int) (k : IntKind) (hb : base ≤ W.heap.size) : (Kd.int k).R T (W.alloc (.cells #[.int k x] T)) base (fun _ => True) (.slice (some ⟨g, 0, none⟩) 1 1) [x] := by
  subst hg; exact R_box1 x k hb
/-- In the midst of a region: from here on more is kept. -/
theorem wpAnyH_stronger {P : Program} {md : Region.Mode} {ops : Array Oper} {Q : Exit → Act → World → Prop} {S S2 : World → Prop} (hS : ∀ w, S2 w → S w) :
    ∀ (fuel : Nat) (listed : Array Bool) (a : Act) (w : World), wpAnyH P md ops Q S2 fuel listed a w → wpAnyH P md ops Q S fuel listed a w
  | 0, _, _, _, h => h
  | fuel + 1, _, _, _, h => ⟨h.1, fun i hi => wpOp_mono (fun a' w' h' => ⟨hS _ h'.1, wpAnyH_stronger hS fuel _ a' w' h'.2⟩) (h.2 i hi)⟩
theorem blk_frozen {w : World} {b : Nat} {cs : Array Value} {t : Nat} (h : Blk w b cs t) (o : Nat) : w.frozen? ⟨b, o, none⟩ = false := by
  rw [Blk] at h
  simp [World.frozen?, h]
theorem blk_set {w : World} {b : Nat} {cs : Array Value} {t : Nat} (h : Blk w b cs t) (i : Nat) (u : Value) : Blk (w.setCell ⟨b, i, none⟩ u) b (cs.setIfInBounds i u) t := by
  rw [Blk] at h
  simp [Blk, World.setCell, Array.getElem?_modify, h]
theorem blk_set_other {w : World} {b : Nat} {cs : Array Value} {t : Nat} (h : Blk w b cs t) (a : Addr) (u : Value) (hne : b ≠ a.block) : Blk (w.setCell a u) b cs t := by
  rw [Blk, Below.heap_setCell w a u b hne]; exact h
/-- A struct of three cells is stored whole. -/
theorem blk_set3 {w : World} {b : Nat} {v0 v1 v2 : Value} {t : Nat} (h : Blk w b #[v0, v1, v2] t) (u0 u1 u2 : Value) : Blk (((w.setCell ⟨b, 0, none⟩ u0).setCell ⟨b, 1, none⟩ u1).setCell ⟨b, 2, none⟩ u2) b #[u0, u1, u2] t :=
  blk_set (blk_set (blk_set h 0 u0) 1 u1) 2 u2
theorem blk_set5 {w : World} {b : Nat} {v0 v1 v2 v3 v4 : Value} {t : Nat} (h : Blk w b #[v0, v1, v2, v3, v4] t) (u0 u1 u2 u3 u4 : Value) : Blk (((((w.setCell ⟨b, 0, none⟩ u0).setCell ⟨b, 1, none⟩ u1).setCell ⟨b, 2, none⟩ u2).setCell ⟨b, 3, none⟩ u3).setCell ⟨b, 4, none⟩ u4) b #[u0, u1, u2, u3, u4] t :=
  blk_set (blk_set (blk_set (blk_set (blk_set h 0 u0) 1 u1) 2 u2) 3 u3) 4 u4
theorem below_set3 {B : Nat} {w W : World} (h : Below B w W) {b : Nat} (hb : B ≤ b) (u0 u1 u2 : Value) : Below B w (((W.setCell ⟨b, 0, none⟩ u0).setCell ⟨b, 1, none⟩ u1).setCell ⟨b, 2, none⟩ u2) :=
  ((h.setCell (p := ⟨b, 0, none⟩) hb _).setCell (p := ⟨b, 1, none⟩) hb _).setCell (p := ⟨b, 2, none⟩) hb _
theorem below_set5 {B : Nat} {w W : World} (h : Below B w W) {b : Nat} (hb : B ≤ b) (u0 u1 u2 u3 u4 : Value) : Below B w (((((W.setCell ⟨b, 0, none⟩ u0).setCell ⟨b, 1, none⟩ u1).setCell ⟨b, 2, none⟩ u2).setCell ⟨b, 3, none⟩ u3).setCell ⟨b, 4, none⟩ u4) :=
  ((((h.setCell (p := ⟨b, 0, none⟩) hb _).setCell (p := ⟨b, 1, none⟩) hb _).setCell (p := ⟨b, 2, none⟩) hb _).setCell (p := ⟨b, 3, none⟩) hb _).setCell (p := ⟨b, 4, none⟩) hb _
theorem add_more (ad : Addr) (n : Nat) : ad.add (n + 1) = ⟨ad.block, ad.off + (n + 1), none⟩ := by simp [Addr.add]
theorem add_off (g o j : Nat) : (⟨g, o, none⟩ : Addr).add j = ⟨g, o + j, none⟩ := by unfold Addr.add; split <;> simp_all
end Go.Proofs.Ytonbnlfijmapfaa
/- A world that has turned in a few blocks alone; maps written in a region that draws its order. No condition. -/
namespace Go.Proofs.Ytonbnlfijmapfaa
set_option linter.unusedVariables false
open Go.RowKit Go.Shelf Go.ChangeMaps Go.MapKept Go.Proofs.YtonbnlfijmapfaaW.PrintWords
set_option linter.unusedVariables false
set_option linter.unusedSimpArgs false
open Go.Maps (Keyed)

/-- w' is w but for the blocks of S, and new ones. -/
structure But (S : Nat → Prop) (w w' : World) : Prop where
  os : w'.os = w.os
  tape : w'.tape = w.tape
  output : w'.output = w.output
  size : w.heap.size ≤ w'.heap.size
  block : ∀ k, k < w.heap.size → ¬ S k → w'.heap[k]? = w.heap[k]?
section
variable {S S' : Nat → Prop} {w w1 w2 : World}
theorem But.refl (S : Nat → Prop) (w : World) : But S w w := ⟨rfl, rfl, rfl, Nat.le_refl _, fun _ _ _ => rfl⟩
theorem But.trans (h : But S w w1) (k : But S w1 w2) : But S w w2 := ⟨k.os.trans h.os, k.tape.trans h.tape, k.output.trans h.output, Nat.le_trans h.size k.size, fun i hi hs => (k.block i (Nat.lt_of_lt_of_le hi h.size) hs).trans (h.block i hi hs)⟩
theorem But.mono (h : But S w w1) (hs : ∀ k, S k → S' k) : But S' w w1 := ⟨h.os, h.tape, h.output, h.size, fun i hi hn => h.block i hi (fun hk => hn (hs i hk))⟩
theorem But.of_below (S : Nat → Prop) (h : Below w.heap.size w w1) : But S w w1 := ⟨h.os, h.tape, h.output, h.size, fun i hi _ => h.block i hi⟩
theorem But.of_grown {b : Nat} (h : w.grownBy w1 (some b)) (hb : S b) : But S w w1 := ⟨h.os, h.tape, h.output, h.size, fun i hi hn => h.block i hi (fun e => hn (by injection e with e; rw [e]; exact hb))⟩
theorem But.of_none (S : Nat → Prop) (h : w.grownBy w1 none) : But S w w1 := ⟨h.os, h.tape, h.output, h.size, fun i hi hn => h.block i hi (by simp)⟩
theorem But.of_turned {b : Nat} (h : w.mapTurned w1 b) (hb : S b) : But S w w1 := But.of_grown h.grown hb
theorem But.alloc (h : But S w w1) (o : Obj) : But S w (w1.alloc o) := h.trans (But.of_below S (below_al w1 o))
theorem But.low {B : Nat} (h : But S w w1) (hS : ∀ k, S k → B ≤ k) (hB : B ≤ w.heap.size) : Below B w w1 := ⟨h.os, h.tape, h.output, h.size, fun k hk => h.block k (by omega) (fun hs => by have := hS k hs; omega)⟩
theorem But.cell (h : But S w w1) {a : Addr} {v : Value} (hc : w.cell? a = some v) (hn : ¬ S a.block) : w1.cell? a = some v := by
  have hl : a.block < w.heap.size := by
    rcases Nat.lt_or_ge a.block w.heap.size with h2 | h2
    · exact h2
    · simp [World.cell?, Array.getElem?_eq_none h2] at hc
  rw [World.cell?_of_block (h.block a.block hl hn)]; exact hc
theorem But.blk (h : But S w w1) {b : Nat} {cs : Array Value} {t : Nat} (hb : Blk w b cs t) (hn : ¬ S b) : Blk w1 b cs t := (h.block b (blk_lt hb) hn).trans hb
/-- Is a block no cells? -/
def NoCells (w : World) (k : Nat) : Prop := ∀ cells t, w.heap[k]? ≠ some (.cells cells t (0, 0))
theorem IMap.noCells {P : Program} {k : TypeId} {b : Nat} {l : List (Int × Value)} (h : IMap w P k b l) : NoCells w b := by
  obtain ⟨es, clock, hb⟩ := h.isObj
  intro cells t e
  rw [hb] at e; cases e
theorem But.row {α : Type} {d : Kd α} {e base : Nat} {ok : Nat → Prop} {v : Value} {xs : List α} (h : But S w w1) (hr : d.R e w base ok v xs) (hn : ∀ k, S k → NoCells w k) : d.R e w1 base ok v xs :=
  Kd.R_mono (Kd.R_step (Kd.R_bound hr) (fun k hk hl => h.block k hl (fun hs => by obtain ⟨_, _, _, _, _, cells, hc⟩ := hk; exact hn k hs _ _ hc))) (fun _ hk => hk.1)
theorem But.imap {P : Program} {k : TypeId} {b : Nat} {l : List (Int × Value)} (h : But S w w1) (hm : IMap w P k b l) (hn : ¬ S b) : IMap w1 P k b l := hm.same (h.block b hm.lt hn)
theorem But.keep {B : Nat} {w0 : World} (h : But S w w1) (hb : Below B w0 w) (hS : ∀ k, S k → B ≤ k) (hB : B ≤ w0.heap.size) : Below B w0 w1 := hb.trans (h.low hS (Nat.le_trans hB hb.size))
end

/-! ### a struct stored whole, a row beside it -/
theorem R_put3 {α : Type} {d : Kd α} {e base g t : Nat} {w : World} {ok : Nat → Prop} {v : Value} {xs : List α} {cs : Array Value} (h : d.R e w base ok v xs) (hb : Blk w g cs t) (ht : ∀ q, q ∈ e :: d.E → q ≠ t) (u0 u1 u2 : Value) :
    d.R e (((w.setCell ⟨g, 0, none⟩ u0).setCell ⟨g, 1, none⟩ u1).setCell ⟨g, 2, none⟩ u2) base ok v xs :=
  Kd.R_set (Kd.R_set (Kd.R_set h hb ht 0 u0) (blk_set hb 0 u0) ht 1 u1) (blk_set (blk_set hb 0 u0) 1 u1) ht 2 u2
theorem R_put5 {α : Type} {d : Kd α} {e base g t : Nat} {w : World} {ok : Nat → Prop} {v : Value} {xs : List α} {cs : Array Value} (h : d.R e w base ok v xs) (hb : Blk w g cs t) (ht : ∀ q, q ∈ e :: d.E → q ≠ t) (u0 u1 u2 u3 u4 : Value) :
    d.R e (((((w.setCell ⟨g, 0, none⟩ u0).setCell ⟨g, 1, none⟩ u1).setCell ⟨g, 2, none⟩ u2).setCell ⟨g, 3, none⟩ u3).setCell ⟨g, 4, none⟩ u4) base ok v xs :=
  Kd.R_set (Kd.R_set (R_put3 h hb ht u0 u1 u2) (blk_set (blk_set (blk_set hb 0 u0) 1 u1) 2 u2) ht 3 u3) (blk_set (blk_set (blk_set (blk_set hb 0 u0) 1 u1) 2 u2) 3 u3) ht 4 u4

/-! ### at an operation of a region that draws its order -/
section
variable {P : Program} {w : World} {ops : Array Oper} {o : Oper} {a : Act} {Q : Exit → Act → World → Prop} {K : Act → World → Prop}
theorem step_mput (hw : Region.wanted o (yielded ops a.tmps) = true) (m x v : Operand) (t : TypeId) (hop : o.op = Op.mapUpdate t m x v)
    (k e : TypeId) (hk : P.underlying k = some (.int .i64)) (ht : P.underlying t = some (.map k e)) (b : Nat) (l : List (Int × Value))
    (hm : a.eval m = .map (some b)) (h : IMap w P k b l) (hn : l.length < maxLen) (n : Int) (val : Value) (hx : a.eval x = .int .i64 n) (hv : a.eval v = val) (hwf : (Lit.int .i64 n).wf = true)
    (hK : ∀ w', IMap w' P k b (putI l n val) → w.mapTurned w' b → K (a.put o.dst undef) w') :
    if Region.wanted o (yielded ops a.tmps) = true then Oper.wp P o a w K Q else K (a.put o.dst undef) w := by
  rw [if_pos hw]
  obtain ⟨w', hrun, r1, r2⟩ := h.2.store (Maps.int_keyed hk) ht hn (d := .held val) (ps := []) (val := val) (Maps.keyOf_int_mk hk hwf) rfl
  unfold Oper.wp
  simp [execOp, hop, hm, hx, hv, hrun, Result.andThen]
  exact hK w' (h.put n val r1) r2
theorem run_look_ok {k e t : TypeId} (hk : P.underlying k = some (.int .i64)) (ht : P.underlying t = some (.map k e)) {z : Value} (hz : (zeroValue e).run P w = .ok z w) {b : Nat} {l : List (Int × Value)} (h : IMap w P k b l) {n : Int} (hw : (Lit.int .i64 n).wf = true) :
    (Instr.lookup t (.map (some b)) (.int .i64 n) true).run P w = .ok (.tuple #[(getI l n).getD z, .bool (getI l n).isSome]) w := by
  obtain ⟨v, ps, hrun, hv⟩ := h.2.look_ok (Maps.int_keyed hk) ht hz (zd := .held z) (zp := []) rfl (Maps.keyOf_int_mk hk hw)
  rw [show (Lit.int IntKind.i64 n) = ik n from rfl, atKey_dat] at hv
  rw [show (Lit.int IntKind.i64 n) = ik n from rfl, has_dat] at hrun
  cases hq : getI l n with
  | none => rw [hq] at hv hrun; simp only [rawR, Option.some.injEq, Prod.mk.injEq, DataW.held.injEq] at hv; rw [hv.1] at hrun; exact hrun
  | some u => rw [hq] at hv hrun; simp only [rawR, Option.some.injEq, Prod.mk.injEq, DataW.held.injEq] at hv; rw [hv.1] at hrun; exact hrun
theorem run_look {k e t : TypeId} (hk : P.underlying k = some (.int .i64)) (ht : P.underlying t = some (.map k e)) {z : Value} (hz : (zeroValue e).run P w = .ok z w) {b : Nat} {l : List (Int × Value)} (h : IMap w P k b l) {n : Int} (hw : (Lit.int .i64 n).wf = true) :
    (Instr.lookup t (.map (some b)) (.int .i64 n) false).run P w = .ok ((getI l n).getD z) w := by
  obtain ⟨v, ps, hrun, hv⟩ := h.2.lookup (Maps.int_keyed hk) ht hz (zd := .held z) (zp := []) rfl (Maps.keyOf_int_mk hk hw)
  rw [show (Lit.int IntKind.i64 n) = ik n from rfl, atKey_dat] at hv
  cases hq : getI l n with
  | none => rw [hq] at hv; simp only [rawR, Option.some.injEq, Prod.mk.injEq, DataW.held.injEq] at hv; rw [hv.1] at hrun; exact hrun
  | some u => rw [hq] at hv; simp only [rawR, Option.some.injEq, Prod.mk.injEq, DataW.held.injEq] at hv; rw [hv.1] at hrun; exact hrun
end
end Go.Proofs.Ytonbnlfijmapfaa
/- A row copied; slices.Clone at properties; graph.ownV, graph.ownE. No condition but on sizes. -/
namespace Go.Proofs.Ytonbnlfijmapfaa
open Go.RowKit Go.Shelf Go.Proofs.YtonbnlfijmapfaaW.PrintWords
set_option linter.unusedVariables false
set_option linter.unusedSimpArgs false

theorem run_app_rows {α : Type} {P : Program} (d : Kd α) {Rr : α → List Value → Prop} {W : World} {base : Nat} {t e ty : TypeId} {z : Value} {bytes : Nat}
    (ht : P.underlying t = some (.slice e)) (hinfo : (P.info? e).map (fun i => (i.zero, i.size, i.bytes)) = some (some z, d.sz, bytes)) (hz : z.cells.size = d.sz) (hs0 : 0 < d.sz) (hb0 : 0 < bytes)
    {v : Value} {xs ys : List α} {A : Option Addr} {m c : Nat} {ok okp : Nat → Prop}
    (HO : d.R e W base ok v xs) (HR : ReadsRow Rr d.sz W A m ys) (hKM : ∀ x cs, Rr x cs → d.M W base okp x cs) (hokp : ∀ k, okp k → ok k ∧ some k ≠ v.ownBlock) (hfresh : ∀ k, W.heap.size ≤ k → ok k)
    (hbase : base ≤ W.heap.size) (hl : (xs.length + m) * bytes ≤ 140737488355328) :
    ∃ v1 w1, (Builtin.append_ #[t, t] ty #[v, .slice A m c]).run P W = .ok v1 w1 ∧ d.R e w1 base ok v1 (xs ++ ys) ∧ W.grownBy w1 v.ownBlock ∧ (v1.ownBlock = v.ownBlock ∨ ∃ b, v1.ownBlock = some b ∧ W.heap.size ≤ b) := by
  obtain ⟨i0, hi, hzz⟩ := Option.map_eq_some_iff.1 hinfo
  simp only [Prod.mk.injEq] at hzz
  obtain ⟨hz0, hz1, hz2⟩ := hzz
  have hm : ys.length = m := HR.1
  have hlen : xs.length + m ≤ 140737488355328 := Nat.le_trans (Nat.le_mul_of_pos_right _ hb0) hl
  obtain ⟨hok, inner, hown, hr⟩ := HO
  rcases A with _ | ad
  · have h0 : m = 0 := by
      rcases Nat.eq_zero_or_pos m with h0 | h0
      · exact h0
      · obtain ⟨ad, h, _⟩ := HR.2.2 h0
        cases h
    subst h0
    obtain rfl : ys = [] := List.eq_nil_of_length_eq_zero hm
    refine ⟨v, W, ?_, by rw [List.append_nil]; exact ⟨hok, inner, hown, hr⟩, World.grownBy.refl W _, .inl rfl⟩
    rcases hown.2 with ⟨rfl, hn⟩ | ⟨g, cap, cur, rfl, _, _, hnc, _⟩
    · simp [Builtin.append_, run_underlying ht, sizeOf, typeInfo, hi, Builtin.lenOf, Builtin.firstCells]
    · simp [Builtin.append_, run_underlying ht, sizeOf, typeInfo, hi, Builtin.lenOf, Builtin.firstCells, hnc, storeCells]
  · obtain ⟨news, hnr, hnc⟩ := ReadsRow.inner_ HR
    have hnM : Reps (d.M W base okp) d.sz ys news := hnr.imp_ (fun p c hp => hKM p c hp)
    have hone : ∀ u ∈ news, u.oneCell' = true := by
      intro u hu
      obtain ⟨q, hq, rfl⟩ := List.mem_iff_getElem.1 hu
      have hql : q / d.sz < ys.length := by
        rw [Nat.div_lt_iff_lt_mul hs0]
        rw [← hnM.1]
        exact hq
      have hc := hnM.2 (q / d.sz) _ (List.getElem?_eq_getElem hql)
      refine d.K_one (d.K_of_M hc) _ ?_
      rw [List.mem_iff_getElem?]
      refine ⟨q % d.sz, ?_⟩
      rw [List.getElem?_take, if_pos (Nat.mod_lt _ hs0), List.getElem?_drop, Nat.mul_comm, Nat.div_add_mod, List.getElem?_eq_getElem hq]
    obtain ⟨v1, w1, hrun, h2, hg, _, hat⟩ := run_append_own_at (P := P) W base t ty e i0 z d.sz bytes ht hi hz0 hz1 hz2 hz hs0 v xs.length inner hown ad m c news (by rw [hnM.1, hm]) hnc hone (by simp only [maxLen]; omega) hl hbase
    have hat' : v1.ownBlock = v.ownBlock ∨ ∃ b, v1.ownBlock = some b ∧ W.heap.size ≤ b := by
      rcases hat with hat | hat
      · exact .inl hat
      · exact .inr ⟨_, hat, Nat.le_refl _⟩
    have hne : ∀ k, some k ≠ v.ownBlock → k < W.heap.size → some k ≠ v1.ownBlock := by
      intro k hk hlt
      rcases hat' with hat | ⟨b, hb, hle⟩
      · rw [hat]; exact hk
      · rw [hb]
        intro he
        injection he with he
        omega
    have step : ∀ {q : α} {c : List Value} {o : Nat → Prop}, d.M W base o q c → (∀ k, o k → ok k ∧ some k ≠ v.ownBlock) → d.M w1 base (fun k => ok k ∧ some k ≠ v1.ownBlock) q c := by
      intro q c o hq ho
      have h1 := d.M_move (w1 := w1) (fun k hk => hg.block k hk.2.2.1 (ho k hk.1).2) (d.M_bound hq)
      exact d.M_mono (fun k hk => ⟨(ho k hk.1).1, hne k (ho k hk.1).2 hk.2.2.1⟩) h1
    refine ⟨v1, w1, hrun, ⟨fun k hk => ?_, inner ++ news, by rw [List.length_append, hm]; exact h2, Kd.reps_append (hr.imp_ (fun _ _ hq => step hq (fun _ hk => hk))) (hnM.imp_ (fun _ _ hq => step hq hokp))⟩, hg, hat'⟩
    rcases hat' with hat | ⟨b, hb, hle⟩
    · exact hok k (hat ▸ hk)
    · rw [hb] at hk
      injection hk with hk
      exact hfresh k (by omega)

theorem info_Prop2 : (Try.prog.info? 117).map (fun i => (i.zero, i.size, i.bytes)) = some (some (.agg #[.string ⟨#[]⟩, .int .i64 0, .int .i64 0, .string ⟨#[]⟩]), 4, 48) := by kernel_rfl
def RetProps (w : World) (l : List SPrp) (e : Ending) (w' : World) : Prop := ∃ v, e = .returned v ∧ kPrp.R 117 w' w.heap.size (fun _ => True) v l ∧ Below w.heap.size w w'
set_option maxRecDepth 100000 in
set_option maxHeartbeats 2000000 in
theorem clone_Prop_calls (A : Option Addr) (c : Nat) (l : List SPrp) (w : World) (h : kPrp.C w A l.length l) (hs : l.length ≤ 1000) :
    Calls Try.prog 118 #[.slice A l.length c] w (RetProps w l) := by
  have HX := Lib.hid h; clear h
  cases A with
  | none =>
    have hl : l = [] := by
      cases l with
      | nil => rfl
      | cons x t => obtain ⟨ad, e, _⟩ := HX.out.2.2 (by simp); cases e
    subst hl
    have q0 := Lib.run_eql_slice_nil (P := Try.prog) w 22 117 none 0 c 0 0 Try.underlying22
    go_enter Try.func118, Try.ntmps118
    go_wp2
    go_ret
    exact ⟨_, rfl, Kd.R_nil _ _ _ _ _, Below.refl _ _⟩
  | some ad =>
    have HR0 := R_lits kPrp (W := w) (base := w.heap.size) (T := 117) [] #[] ⟨rfl, fun j p hj => by simp at hj⟩ (Nat.le_refl _) (by simp)
    obtain ⟨v1, w1, hr1, hR1, hg1, hat1⟩ := run_app_rows (P := Try.prog) (ty := 22) (c := c) kPrp Try.underlying22 info_Prop2 rfl (by decide) (by decide) HR0 (Kd.C_alloc HX.out (.cells #[] 117)) (okp := fun k => False) (fun x cs hK => by obtain rfl := kPrp_open hK; exact kPrp_mkM _ _ _ _) (fun k hk => hk.elim) (fun _ _ => trivial) (by simp) (by simp; omega)
    have HB1 := Lib.hid (show Below w.heap.size w w1 from (below_al w (.cells #[] 117)).grown hg1 (by simp) (fun k hk => by simp [Value.ownBlock] at hk; omega))
    rw [List.nil_append] at hR1
    have HR1 := Lib.hid hR1; clear hR1 HR0
    have q0 := Lib.run_eql_slice_nil (P := Try.prog) w 22 117 (some ad) l.length c 0 0 Try.underlying22
    go_enter Try.func118, Try.ntmps118
    go_wp2_with (at_builtin; refine list_app rfl rfl rfl rfl hr1 ?_)
    go_ret
    exact ⟨_, rfl, HR1.out, HB1.out⟩
end Go.Proofs.Ytonbnlfijmapfaa
/- graph.ownV, graph.ownE: the thing in new memory. No condition but on sizes. -/
namespace Go.Proofs.Ytonbnlfijmapfaa
open Go.RowKit Go.Shelf Go.Proofs.YtonbnlfijmapfaaW.PrintWords
set_option linter.unusedVariables false
set_option linter.unusedSimpArgs false

def RetVert (w : World) (x : SVert) (e : Ending) (w' : World) : Prop := ∃ v, e = .returned (.agg #[.int .i64 x.f0, .string x.f1, v]) ∧ kPrp.R 117 w' w.heap.size (fun _ => True) v x.f2 ∧ Below w.heap.size w w'
def RetEdge (w : World) (x : SEdg) (e : Ending) (w' : World) : Prop := ∃ v, e = .returned (.agg #[.int .i64 x.f0, .string x.f1, .int .i64 x.f2, .int .i64 x.f3, v]) ∧ kPrp.R 117 w' w.heap.size (fun _ => True) v x.f4 ∧ Below w.heap.size w w'

set_option maxRecDepth 100000 in
set_option maxHeartbeats 2000000 in
theorem graph_ownV_calls (id : Int) (s : ByteArray) (A : Option Addr) (c : Nat) (l : List SPrp) (w : World) (h : kPrp.C w A l.length l) (hs : l.length ≤ 1000) :
    Calls Try.prog 87 #[.agg #[.int .i64 id, .string s, .slice A l.length c]] w (RetVert w ⟨id, s, l⟩) := by
  have HX := Lib.hid h; clear h
  have K1 := blk_alloc (blk_new w #[.int .i64 id, .string s, .slice A l.length c] 24) (.cells #[.int .i64 0, .string ⟨#[]⟩, .slice none 0 0] 24)
  have K2 := blk_new (w.alloc (.cells #[.int .i64 id, .string s, .slice A l.length c] 24)) #[.int .i64 0, .string ⟨#[]⟩, .slice none 0 0] 24
  rw [show (w.alloc (.cells #[.int .i64 id, .string s, .slice A l.length c] 24)).heap.size = w.heap.size + 1 by simp] at K2
  have HK1 := Lib.hid K1; have HK2 := Lib.hid K2
  have HB := Lib.hid (keepB0 (below_al (w.alloc (.cells #[.int .i64 id, .string s, .slice A l.length c] 24)) (.cells #[.int .i64 0, .string ⟨#[]⟩, .slice none 0 0] 24)) (below_al w (.cells #[.int .i64 id, .string s, .slice A l.length c] 24)))
  have ac0 := blk_cell K1 0; have ac1 := blk_cell K1 1; have ac2 := blk_cell K1 2; simp only [List.getElem?_toArray, List.getElem?_cons_zero, List.getElem?_cons_succ] at ac0 ac1 ac2; have af0 := blk_frozen K1 0; have af1 := blk_frozen K1 1; have af2 := blk_frozen K1 2
  clear K1 K2
  go_enter Try.func87, Try.ntmps87
  go_wp2_with (go_at_call 118; refine (clone_Prop_calls A c l _ (Kd.C_below HX.out HB.out) hs).mono ?_; rintro e w1 ⟨pv, rfl, hR, hb⟩; obtain ⟨A3, c3, rfl⟩ := Kd.R_slice hR; clear ac0 ac1 ac2 af0 af1 af2; have HR := Lib.hid (Kd.R_lower (base' := w.heap.size) hR HB.out.size); replace HK1 := Lib.hid (blk_below hb HK1.out); replace HK2 := Lib.hid (blk_below hb HK2.out); replace HB := Lib.hid (keepB0 hb HB.out); clear hR hb; have K3 := blk_set HK1.out 2 (.slice A3 l.length c3); have K4 := blk_set_other HK2.out ⟨w.heap.size, 2, none⟩ (.slice A3 l.length c3) (by simp); have HK3 := Lib.hid K3; have HK4 := Lib.hid K4; clear K3 K4; have ac0 := blk_cell HK1.out 0; have ac1 := blk_cell HK1.out 1; have ac2 := blk_cell HK1.out 2; simp only [List.getElem?_toArray, List.getElem?_cons_zero, List.getElem?_cons_succ] at ac0 ac1 ac2; have af0 := blk_frozen HK1.out 0; have af1 := blk_frozen HK1.out 1; have af2 := blk_frozen HK1.out 2; have bc0 := blk_cell (show Blk _ _ #[.int .i64 id, .string s, (.slice A3 l.length c3)] _ from HK3.out) 0; have bc1 := blk_cell (show Blk _ _ #[.int .i64 id, .string s, (.slice A3 l.length c3)] _ from HK3.out) 1; have bc2 := blk_cell (show Blk _ _ #[.int .i64 id, .string s, (.slice A3 l.length c3)] _ from HK3.out) 2; simp only [List.getElem?_toArray, List.getElem?_cons_zero, List.getElem?_cons_succ] at bc0 bc1 bc2; have bf0 := blk_frozen (show Blk _ _ #[.int .i64 id, .string s, (.slice A3 l.length c3)] _ from HK3.out) 0; have bf1 := blk_frozen (show Blk _ _ #[.int .i64 id, .string s, (.slice A3 l.length c3)] _ from HK3.out) 1; have bf2 := blk_frozen (show Blk _ _ #[.int .i64 id, .string s, (.slice A3 l.length c3)] _ from HK3.out) 2; have dc0 := blk_cell HK4.out 0; have dc1 := blk_cell HK4.out 1; have dc2 := blk_cell HK4.out 2; simp only [List.getElem?_toArray, List.getElem?_cons_zero, List.getElem?_cons_succ] at dc0 dc1 dc2; have df0 := blk_frozen HK4.out 0; have df1 := blk_frozen HK4.out 1; have df2 := blk_frozen HK4.out 2)
  have hK := blk_set3 HK4.out (.int .i64 id) (.string s) (.slice A3 l.length c3)
  have k0 := blk_cell hK 0
  have k1 := blk_cell hK 1
  have k2 := blk_cell hK 2
  simp only [List.getElem?_toArray, List.getElem?_cons_zero, List.getElem?_cons_succ] at k0 k1 k2
  refine bodyPost_ret (v := .agg #[.int .i64 id, .string s, (.slice A3 l.length c3)]) (by simp [results, Try.results87, go_sem, k0, k1, k2]) rfl ⟨(.slice A3 l.length c3), rfl, ?_, ?_⟩
  · exact R_put3 (Kd.R_set HR.out HK1.out (by decide) 2 (.slice A3 l.length c3)) HK4.out (by decide) _ _ _
  · exact below_set3 (HB.out.setCell (p := ⟨w.heap.size, 2, none⟩) (Nat.le_refl _) _) (Nat.le_succ _) _ _ _
set_option maxRecDepth 100000 in
set_option maxHeartbeats 2000000 in
theorem graph_ownE_calls (id : Int) (s : ByteArray) (x y : Int) (A : Option Addr) (c : Nat) (l : List SPrp) (w : World) (h : kPrp.C w A l.length l) (hs : l.length ≤ 1000) :
    Calls Try.prog 88 #[.agg #[.int .i64 id, .string s, .int .i64 x, .int .i64 y, .slice A l.length c]] w (RetEdge w ⟨id, s, x, y, l⟩) := by
  have HX := Lib.hid h; clear h
  have K1 := blk_alloc (blk_new w #[.int .i64 id, .string s, .int .i64 x, .int .i64 y, .slice A l.length c] 35) (.cells #[.int .i64 0, .string ⟨#[]⟩, .int .i64 0, .int .i64 0, .slice none 0 0] 35)
  have K2 := blk_new (w.alloc (.cells #[.int .i64 id, .string s, .int .i64 x, .int .i64 y, .slice A l.length c] 35)) #[.int .i64 0, .string ⟨#[]⟩, .int .i64 0, .int .i64 0, .slice none 0 0] 35
  rw [show (w.alloc (.cells #[.int .i64 id, .string s, .int .i64 x, .int .i64 y, .slice A l.length c] 35)).heap.size = w.heap.size + 1 by simp] at K2
  have HK1 := Lib.hid K1; have HK2 := Lib.hid K2
  have HB := Lib.hid (keepB0 (below_al (w.alloc (.cells #[.int .i64 id, .string s, .int .i64 x, .int .i64 y, .slice A l.length c] 35)) (.cells #[.int .i64 0, .string ⟨#[]⟩, .int .i64 0, .int .i64 0, .slice none 0 0] 35)) (below_al w (.cells #[.int .i64 id, .string s, .int .i64 x, .int .i64 y, .slice A l.length c] 35)))
  have ac0 := blk_cell K1 0; have ac1 := blk_cell K1 1; have ac2 := blk_cell K1 2; have ac3 := blk_cell K1 3; have ac4 := blk_cell K1 4; simp only [List.getElem?_toArray, List.getElem?_cons_zero, List.getElem?_cons_succ] at ac0 ac1 ac2 ac3 ac4; have af0 := blk_frozen K1 0; have af1 := blk_frozen K1 1; have af2 := blk_frozen K1 2; have af3 := blk_frozen K1 3; have af4 := blk_frozen K1 4
  clear K1 K2
  go_enter Try.func88, Try.ntmps88
  go_wp2_with (go_at_call 118; refine (clone_Prop_calls A c l _ (Kd.C_below HX.out HB.out) hs).mono ?_; rintro e w1 ⟨pv, rfl, hR, hb⟩; obtain ⟨A3, c3, rfl⟩ := Kd.R_slice hR; clear ac0 ac1 ac2 ac3 ac4 af0 af1 af2 af3 af4; have HR := Lib.hid (Kd.R_lower (base' := w.heap.size) hR HB.out.size); replace HK1 := Lib.hid (blk_below hb HK1.out); replace HK2 := Lib.hid (blk_below hb HK2.out); replace HB := Lib.hid (keepB0 hb HB.out); clear hR hb; have K3 := blk_set HK1.out 4 (.slice A3 l.length c3); have K4 := blk_set_other HK2.out ⟨w.heap.size, 4, none⟩ (.slice A3 l.length c3) (by simp); have HK3 := Lib.hid K3; have HK4 := Lib.hid K4; clear K3 K4; have ac0 := blk_cell HK1.out 0; have ac1 := blk_cell HK1.out 1; have ac2 := blk_cell HK1.out 2; have ac3 := blk_cell HK1.out 3; have ac4 := blk_cell HK1.out 4; simp only [List.getElem?_toArray, List.getElem?_cons_zero, List.getElem?_cons_succ] at ac0 ac1 ac2 ac3 ac4; have af0 := blk_frozen HK1.out 0; have af1 := blk_frozen HK1.out 1; have af2 := blk_frozen HK1.out 2; have af3 := blk_frozen HK1.out 3; have af4 := blk_frozen HK1.out 4; have bc0 := blk_cell (show Blk _ _ #[.int .i64 id, .string s, .int .i64 x, .int .i64 y, (.slice A3 l.length c3)] _ from HK3.out) 0; have bc1 := blk_cell (show Blk _ _ #[.int .i64 id, .string s, .int .i64 x, .int .i64 y, (.slice A3 l.length c3)] _ from HK3.out) 1; have bc2 := blk_cell (show Blk _ _ #[.int .i64 id, .string s, .int .i64 x, .int .i64 y, (.slice A3 l.length c3)] _ from HK3.out) 2; have bc3 := blk_cell (show Blk _ _ #[.int .i64 id, .string s, .int .i64 x, .int .i64 y, (.slice A3 l.length c3)] _ from HK3.out) 3; have bc4 := blk_cell (show Blk _ _ #[.int .i64 id, .string s, .int .i64 x, .int .i64 y, (.slice A3 l.length c3)] _ from HK3.out) 4; simp only [List.getElem?_toArray, List.getElem?_cons_zero, List.getElem?_cons_succ] at bc0 bc1 bc2 bc3 bc4; have bf0 := blk_frozen (show Blk _ _ #[.int .i64 id, .string s, .int .i64 x, .int .i64 y, (.slice A3 l.length c3)] _ from HK3.out) 0; have bf1 := blk_frozen (show Blk _ _ #[.int .i64 id, .string s, .int .i64 x, .int .i64 y, (.slice A3 l.length c3)] _ from HK3.out) 1; have bf2 := blk_frozen (show Blk _ _ #[.int .i64 id, .string s, .int .i64 x, .int .i64 y, (.slice A3 l.length c3)] _ from HK3.out) 2; have bf3 := blk_frozen (show Blk _ _ #[.int .i64 id, .string s, .int .i64 x, .int .i64 y, (.slice A3 l.length c3)] _ from HK3.out) 3; have bf4 := blk_frozen (show Blk _ _ #[.int .i64 id, .string s, .int .i64 x, .int .i64 y, (.slice A3 l.length c3)] _ from HK3.out) 4; have dc0 := blk_cell HK4.out 0; have dc1 := blk_cell HK4.out 1; have dc2 := blk_cell HK4.out 2; have dc3 := blk_cell HK4.out 3; have dc4 := blk_cell HK4.out 4; simp only [List.getElem?_toArray, List.getElem?_cons_zero, List.getElem?_cons_succ] at dc0 dc1 dc2 dc3 dc4; have df0 := blk_frozen HK4.out 0; have df1 := blk_frozen HK4.out 1; have df2 := blk_frozen HK4.out 2; have df3 := blk_frozen HK4.out 3; have df4 := blk_frozen HK4.out 4)
  have hK := blk_set5 HK4.out (.int .i64 id) (.string s) (.int .i64 x) (.int .i64 y) (.slice A3 l.length c3)
  have k0 := blk_cell hK 0
  have k1 := blk_cell hK 1
  have k2 := blk_cell hK 2
  have k3 := blk_cell hK 3
  have k4 := blk_cell hK 4
  simp only [List.getElem?_toArray, List.getElem?_cons_zero, List.getElem?_cons_succ] at k0 k1 k2 k3 k4
  refine bodyPost_ret (v := .agg #[.int .i64 id, .string s, .int .i64 x, .int .i64 y, (.slice A3 l.length c3)]) (by simp [results, Try.results88, go_sem, k0, k1, k2, k3, k4]) rfl ⟨(.slice A3 l.length c3), rfl, ?_, ?_⟩
  · exact R_put5 (Kd.R_set HR.out HK1.out (by decide) 4 (.slice A3 l.length c3)) HK4.out (by decide) _ _ _ _ _
  · exact below_set5 (HB.out.setCell (p := ⟨w.heap.size, 4, none⟩) (Nat.le_refl _) _) (Nat.le_succ _) _ _ _ _ _
end Go.Proofs.Ytonbnlfijmapfaa
/- '==' of the program's plain structs. No condition. -/
namespace Go.Proofs.Ytonbnlfijmapfaa
open Go.RowKit Go.Proofs.YtonbnlfijmapfaaW.PrintWords
set_option linter.unusedVariables false
set_option linter.unusedSimpArgs false

deriving instance DecidableEq for SValue
deriving instance DecidableEq for SPrp
deriving instance DecidableEq for SEntry
deriving instance DecidableEq for SKey
deriving instance DecidableEq for SVert
deriving instance DecidableEq for SEdg

theorem data_beq {a b : ByteArray} : (a == b) = decide (a = b) := by
  cases a with | mk x => cases b with | mk y =>
  have e : ((⟨x⟩ : ByteArray) == ⟨y⟩) = (x == y) := rfl
  rw [e, Bool.eq_iff_iff]; simp
theorem toList_eq {a b : ByteArray} : (a.toList == b.toList) = decide (a = b) := by rw [← beq_toListBytes, data_beq]
theorem eqA_Value (d : Nat) (w : World) (x0 y0 : Int) (x1 y1 : Int) (x2 y2 : ByteArray) :
    (Op.equalIn (d + 2) 42 (.agg #[.int .i64 x0, .int .i64 x1, .string x2]) (.agg #[.int .i64 y0, .int .i64 y1, .string y2])).run Try.prog w = .ok (x0 == y0 && (x1 == y1 && (x2.toList == y2.toList))) w := by
  refine eqA_of Try.underlying42 (by kernel_rfl) ?_
  refine eqf_cons (by rfl) (by go_simp; rfl) (by go_simp; rfl) (by go_simp) ?_
  refine eqf_cons (by rfl) (by go_simp; rfl) (by go_simp; rfl) (by go_simp) ?_
  exact eqf_last (by rfl) (by go_simp; rfl) (by go_simp; rfl) (by go_simp)
theorem eqA_Prp (d : Nat) (w : World) (x0 y0 : ByteArray) (x1 y1 : Int) (x2 y2 : Int) (x3 y3 : ByteArray) :
    (Op.equalIn (d + 3) 117 (.agg #[.string x0, .int .i64 x1, .int .i64 x2, .string x3]) (.agg #[.string y0, .int .i64 y1, .int .i64 y2, .string y3])).run Try.prog w = .ok (x0.toList == y0.toList && ((x1 == y1 && (x2 == y2 && (x3.toList == y3.toList))))) w := by
  refine eqA_of Try.underlying117 (by kernel_rfl) ?_
  refine eqf_cons (by rfl) (by go_simp; rfl) (by go_simp; rfl) (by go_simp) ?_
  exact eqf_last (by rfl) (by go_simp) (by go_simp) (eqA_Value (d + 0) w _ _ _ _ _ _)
theorem eqA_Entry (d : Nat) (w : World) (x0 y0 x1 y1 : ByteArray) :
    (Op.equalIn (d + 2) 39 (.agg #[.string x0, .string x1]) (.agg #[.string y0, .string y1])).run Try.prog w = .ok (x0.toList == y0.toList && (x1.toList == y1.toList)) w := by
  refine eqA_of Try.underlying39 (by kernel_rfl) ?_
  refine eqf_cons (by rfl) (by go_simp; rfl) (by go_simp; rfl) (by go_simp) ?_
  exact eqf_last (by rfl) (by go_simp; rfl) (by go_simp; rfl) (by go_simp)
theorem eqA_Key (d : Nat) (w : World) (x0 y0 x1 y1 x2 y2 : Int) (x3 y3 : ByteArray) :
    (Op.equalIn (d + 2) 55 (.agg #[.int .i64 x0, .int .i64 x1, .int .i64 x2, .string x3]) (.agg #[.int .i64 y0, .int .i64 y1, .int .i64 y2, .string y3])).run Try.prog w = .ok (x0 == y0 && (x1 == y1 && (x2 == y2 && (x3.toList == y3.toList)))) w := by
  refine eqA_of Try.underlying55 (by kernel_rfl) ?_
  refine eqf_cons (by rfl) (by go_simp; rfl) (by go_simp; rfl) (by go_simp) ?_
  refine eqf_cons (by rfl) (by go_simp; rfl) (by go_simp; rfl) (by go_simp) ?_
  refine eqf_cons (by rfl) (by go_simp; rfl) (by go_simp; rfl) (by go_simp) ?_
  exact eqf_last (by rfl) (by go_simp; rfl) (by go_simp; rfl) (by go_simp)
/-- Laid ahead of a walk, where it is known how they are. -/
theorem eq_Prp {x0 y0 : ByteArray} {x1 y1 : Int} {x2 y2 : Int} {x3 y3 : ByteArray} {b : Bool} (h : decide ((⟨x0, ⟨x1, x2, x3⟩⟩ : SPrp) = ⟨y0, ⟨y1, y2, y3⟩⟩) = b) (w : World) :
    (Op.equalIn 10000 117 (.agg #[.string x0, .int .i64 x1, .int .i64 x2, .string x3]) (.agg #[.string y0, .int .i64 y1, .int .i64 y2, .string y3])).run Try.prog w = .ok b w := by
  rw [eqA_Prp 9997, ← h]; congr 1; rw [toList_eq, toList_eq, Bool.eq_iff_iff]; simp
theorem eq_Entry {x0 y0 x1 y1 : ByteArray} {b : Bool} (h : decide ((⟨x0, x1⟩ : SEntry) = ⟨y0, y1⟩) = b) (w : World) :
    (Op.equalIn 10000 39 (.agg #[.string x0, .string x1]) (.agg #[.string y0, .string y1])).run Try.prog w = .ok b w := by
  rw [eqA_Entry 9998, ← h]; congr 1; rw [toList_eq, toList_eq, Bool.eq_iff_iff]; simp
theorem eq_Key {x0 y0 x1 y1 x2 y2 : Int} {x3 y3 : ByteArray} {b : Bool} (h : decide ((⟨x0, x1, x2, x3⟩ : SKey) = ⟨y0, y1, y2, y3⟩) = b) (w : World) :
    (Op.equalIn 10000 55 (.agg #[.int .i64 x0, .int .i64 x1, .int .i64 x2, .string x3]) (.agg #[.int .i64 y0, .int .i64 y1, .int .i64 y2, .string y3])).run Try.prog w = .ok b w := by
  rw [eqA_Key 9998, ← h]; congr 1; rw [toList_eq, Bool.eq_iff_iff]; simp
/-- Nothing but draws. -/
def Quiet (w w' : World) : Prop := ∃ m, w' = w.drewN m
theorem quiet_refl (w : World) : Quiet w w := ⟨0, rfl⟩
theorem quiet_below {w w' : World} (h : Quiet w w') (B : Nat) : Below B w w' := by obtain ⟨m, rfl⟩ := h; exact ⟨rfl, rfl, rfl, Nat.le_refl _, fun _ _ => rfl⟩
theorem quiet_step {w w' : World} (h : Quiet w w') (n : Nat) : Quiet w (w'.drewN n) := by obtain ⟨m, rfl⟩ := h; exact ⟨m + n, by simp⟩
end Go.Proofs.Ytonbnlfijmapfaa
/- A graph in memory, as two lists by rising ids. No condition. -/
namespace Go.Proofs.Ytonbnlfijmapfaa
open Go.RowKit Go.Shelf Go.Proofs.YtonbnlfijmapfaaW.PrintWords
set_option linter.unusedVariables false
set_option linter.unusedSimpArgs false

section
variable {α : Type} {K : Value → α → Prop} {key : α → Int}
/-- Entries and what they stand for. -/
def Zip (K : Value → α → Prop) (key : α → Int) : List (Int × Value) → List α → Prop
  | [], [] => True
  | p :: V, x :: xs => (p.1 = key x ∧ K p.2 x) ∧ Zip K key V xs
  | _, _ => False
def insK (key : α → Int) (x : α) : List α → List α
  | [] => [x]
  | y :: r => if key x < key y then x :: y :: r else y :: insK key x r
def findK (key : α → Int) (xs : List α) (n : Int) : Option α := xs.find? fun x => key x == n
def delK (key : α → Int) (xs : List α) (n : Int) : List α := xs.filter fun x => key x != n
theorem Zip.length : ∀ {V : List (Int × Value)} {xs : List α}, Zip K key V xs → V.length = xs.length
  | [], [], _ => rfl
  | _ :: V, _ :: xs, h => by simp [Zip.length h.2]
  | [], _ :: _, h => h.elim
  | _ :: _, [], h => h.elim
theorem Zip.mono {K' : Value → α → Prop} (hk : ∀ v x, K v x → K' v x) : ∀ {V : List (Int × Value)} {xs : List α}, Zip K key V xs → Zip K' key V xs
  | [], [], _ => trivial
  | _ :: V, _ :: xs, h => ⟨⟨h.1.1, hk _ _ h.1.2⟩, Zip.mono hk h.2⟩
  | [], _ :: _, h => h.elim
  | _ :: _, [], h => h.elim
theorem Zip.none : ∀ {V : List (Int × Value)} {xs : List α} {n : Int}, Zip K key V xs → findK key xs n = none → getI V n = none
  | [], [], _, _, _ => rfl
  | p :: V, x :: xs, n, h, hf => by
    simp only [findK, List.find?_cons] at hf
    simp only [getI, List.find?_cons, h.1.1]
    cases hc : key x == n with
    | true => rw [hc] at hf; cases hf
    | false => rw [hc] at hf; exact Zip.none h.2 hf
  | [], _ :: _, _, h, _ => h.elim
  | _ :: _, [], _, h, _ => h.elim
theorem Zip.some : ∀ {V : List (Int × Value)} {xs : List α} {n : Int} {x : α}, Zip K key V xs → findK key xs n = some x → ∃ v, getI V n = some v ∧ K v x
  | [], [], _, _, _, hf => by simp [findK] at hf
  | p :: V, y :: xs, n, x, h, hf => by
    simp only [findK, List.find?_cons] at hf
    simp only [getI, List.find?_cons, h.1.1]
    cases hc : key y == n with
    | true => rw [hc] at hf; injection hf with hf; subst hf; exact ⟨p.2, rfl, h.1.2⟩
    | false => rw [hc] at hf; exact Zip.some h.2 hf
  | [], _ :: _, _, _, h, _ => h.elim
  | _ :: _, [], _, _, h, _ => h.elim
theorem Zip.ins {n : Int} {v : Value} {x : α} (hn : n = key x) (hv : K v x) : ∀ {V : List (Int × Value)} {xs : List α}, Zip K key V xs → Zip K key (insI (n, v) V) (insK key x xs)
  | [], [], _ => ⟨⟨hn, hv⟩, trivial⟩
  | p :: V, y :: xs, h => by
    simp only [insI, insK, h.1.1, hn]
    by_cases hc : key x < key y
    · rw [if_pos hc, if_pos hc]; exact ⟨⟨rfl, hv⟩, ⟨h.1.1, h.1.2⟩, h.2⟩
    · rw [if_neg hc, if_neg hc]; exact ⟨⟨h.1.1, h.1.2⟩, by have := Zip.ins hn hv h.2; rw [hn] at this; exact this⟩
  | [], _ :: _, h => h.elim
  | _ :: _, [], h => h.elim
theorem Zip.del (n : Int) : ∀ {V : List (Int × Value)} {xs : List α}, Zip K key V xs → Zip K key (delI V n) (delK key xs n)
  | [], [], _ => trivial
  | p :: V, y :: xs, h => by
    have ih := Zip.del n h.2
    simp only [delI, delK, List.filter_cons, h.1.1] at ih ⊢
    by_cases hc : (key y != n) = true
    · rw [if_pos hc, if_pos hc]; exact ⟨⟨h.1.1, h.1.2⟩, ih⟩
    · rw [if_neg hc, if_neg hc]; exact ih
  | [], _ :: _, h => h.elim
  | _ :: _, [], h => h.elim
theorem Zip.mem : ∀ {V : List (Int × Value)} {xs : List α} {n : Int} {v : Value}, Zip K key V xs → (n, v) ∈ V → ∃ x ∈ xs, n = key x ∧ K v x
  | [], [], _, _, _, h => by simp at h
  | p :: V, y :: xs, n, v, h, hm => by
    rcases List.mem_cons.1 hm with e | hm
    · subst e; exact ⟨y, List.mem_cons_self, h.1.1, h.1.2⟩
    · obtain ⟨x, hx, r⟩ := Zip.mem h.2 hm
      exact ⟨x, List.mem_cons_of_mem _ hx, r⟩
  | [], _ :: _, _, _, h, _ => h.elim
  | _ :: _, [], _, _, h, _ => h.elim
theorem delK_none {xs : List α} {n : Int} (h : findK key xs n = .none) : delK key xs n = xs := by
  rw [delK, List.filter_eq_self]
  intro y hy
  simp only [findK, List.find?_eq_none] at h
  have := h y hy
  simpa using this
end

/-- A vertex in a map; an edge. -/
def VAs (W : World) (B : Nat) (v : Value) (x : SVert) : Prop := ∃ pv, v = .agg #[.int .i64 x.f0, .string x.f1, pv] ∧ kPrp.R 117 W B (fun _ => True) pv x.f2
def EAs (W : World) (B : Nat) (v : Value) (x : SEdg) : Prop := ∃ pv, v = .agg #[.int .i64 x.f0, .string x.f1, .int .i64 x.f2, .int .i64 x.f3, pv] ∧ kPrp.R 117 W B (fun _ => True) pv x.f4
def VMap (W : World) (B m : Nat) (vs : List SVert) : Prop := ∃ V, IMap W Try.prog 3 m V ∧ Zip (VAs W B) SVert.f0 V vs
def EMap (W : World) (B m : Nat) (es : List SEdg) : Prop := ∃ V, IMap W Try.prog 3 m V ∧ Zip (EAs W B) SEdg.f0 V es
/-- At g lies a graph: its maps in m1, m2; all of it made from B on. -/
structure GraphAt (W : World) (B g m1 m2 : Nat) (vs : List SVert) (es : List SEdg) : Prop where
  blk : Blk W g #[.map (some m1), .map (some m2)] 135
  low : B ≤ g ∧ B ≤ m1 ∧ B ≤ m2
  ne : m1 ≠ m2
  vm : VMap W B m1 vs
  em : EMap W B m2 es
section
variable {W W' : World} {B g m1 m2 : Nat} {vs : List SVert} {es : List SEdg}
theorem VMap.noCells {m : Nat} (h : VMap W B m vs) : NoCells W m := by obtain ⟨V, h, _⟩ := h; exact h.noCells
theorem EMap.noCells {m : Nat} (h : EMap W B m es) : NoCells W m := by obtain ⟨V, h, _⟩ := h; exact h.noCells
theorem VMap.but {S : Nat → Prop} {m : Nat} (h : VMap W B m vs) (hb : But S W W') (hm : ¬ S m) (hn : ∀ k, S k → NoCells W k) : VMap W' B m vs := by
  obtain ⟨V, h1, h2⟩ := h
  exact ⟨V, hb.imap h1 hm, h2.mono fun v x ⟨pv, e, hr⟩ => ⟨pv, e, hb.row hr hn⟩⟩
theorem EMap.but {S : Nat → Prop} {m : Nat} (h : EMap W B m es) (hb : But S W W') (hm : ¬ S m) (hn : ∀ k, S k → NoCells W k) : EMap W' B m es := by
  obtain ⟨V, h1, h2⟩ := h
  exact ⟨V, hb.imap h1 hm, h2.mono fun v x ⟨pv, e, hr⟩ => ⟨pv, e, hb.row hr hn⟩⟩
theorem GraphAt.but {S : Nat → Prop} (h : GraphAt W B g m1 m2 vs es) (hb : But S W W') (hn : ∀ k, S k → NoCells W k) (h1 : ¬ S m1) (h2 : ¬ S m2) : GraphAt W' B g m1 m2 vs es :=
  ⟨hb.blk h.blk (fun hs => hn g hs _ _ h.blk), h.low, h.ne, h.vm.but hb h1 hn, h.em.but hb h2 hn⟩
theorem GraphAt.below (h : GraphAt W B g m1 m2 vs es) (hb : Below W.heap.size W W') : GraphAt W' B g m1 m2 vs es :=
  h.but (But.of_below (fun _ => False) hb) (fun _ hs => hs.elim) (fun h => h) (fun h => h)
theorem GraphAt.base (h : GraphAt W B g m1 m2 vs es) : B ≤ W.heap.size := Nat.le_trans h.low.1 (Nat.le_of_lt (blk_lt h.blk))
theorem GraphAt.lower {B' : Nat} (h : GraphAt W B g m1 m2 vs es) (hb : B' ≤ B) : GraphAt W B' g m1 m2 vs es := by
  obtain ⟨k1, k2, k3, ⟨V, k4, k5⟩, ⟨E, k6, k7⟩⟩ := h
  exact ⟨k1, ⟨Nat.le_trans hb k2.1, Nat.le_trans hb k2.2.1, Nat.le_trans hb k2.2.2⟩, k3, ⟨V, k4, k5.mono fun v x ⟨pv, e, hr⟩ => ⟨pv, e, Kd.R_lower hr hb⟩⟩, ⟨E, k6, k7.mono fun v x ⟨pv, e, hr⟩ => ⟨pv, e, Kd.R_lower hr hb⟩⟩⟩
end

set_option maxRecDepth 100000 in
theorem graph_New_calls (w : World) :
    Calls Try.prog 47 #[] w fun e w' => ∃ g m1 m2, e = .returned (.pointer (some ⟨g, 0, none⟩)) ∧ GraphAt w' w.heap.size g m1 m2 [] [] ∧ Below w.heap.size w w' := by
  have q1 := run_makeMap (P := Try.prog) 132 w
  have q2 := run_makeMap (P := Try.prog) 133 (w.alloc (.map #[] 0))
  rw [show (w.alloc (.map #[] 0)).heap.size = w.heap.size + 1 by simp] at q2
  go_enter Try.func47, Try.ntmps47
  go_wp2
  go_ret
  have hb := keepB0 (below_al ((w.alloc (.map #[] 0)).alloc (.map #[] 0)) (.cells #[.map (some w.heap.size), .map (some (w.heap.size + 1))] 135)) (keepB0 (below_al (w.alloc (.map #[] 0)) (.map #[] 0)) (below_al w (.map #[] 0)))
  refine ⟨w.heap.size + 2, w.heap.size, w.heap.size + 1, rfl, ⟨?_, ⟨by omega, by omega, by omega⟩, by omega, ⟨[], ?_, trivial⟩, ⟨[], ?_, trivial⟩⟩, hb⟩
  · have := blk_new ((w.alloc (.map #[] 0)).alloc (.map #[] 0)) #[.map (some w.heap.size), .map (some (w.heap.size + 1))] 135
    rw [show ((w.alloc (.map #[] 0)).alloc (.map #[] 0)).heap.size = w.heap.size + 2 by simp] at this
    exact this
  · exact ((IMap.new w Try.prog 3).below (below_al _ _)).below (below_al _ _)
  · have := (IMap.new (w.alloc (.map #[] 0)) Try.prog 3).below (below_al _ (.cells #[.map (some w.heap.size), .map (some (w.heap.size + 1))] 135))
    rw [show (w.alloc (.map #[] 0)).heap.size = w.heap.size + 1 by simp] at this
    exact this
end Go.Proofs.Ytonbnlfijmapfaa
/- Letters, names: what letter.letter, letter.wrong, letter.Right and the reference's Runes, letter, Right answer. No condition but on sizes. -/
namespace Go.Proofs.Ytonbnlfijmapfaa
open Go.RowKit Go.Shelf Go.Proofs.YtonbnlfijmapfaaW.PrintWords
set_option linter.unusedVariables false
set_option linter.unusedSimpArgs false

def isLetter (r : Int) : Bool := (decide (97 ≤ r) && decide (r ≤ 122)) || (decide (65 ≤ r) && decide (r ≤ 90)) || (r == 95) || (decide (192 ≤ r) && decide (r ≤ 591) && r != 215 && r != 247)
def isDigit (r : Int) : Bool := decide (48 ≤ r) && decide (r ≤ 57)

set_option maxHeartbeats 1000000 in
theorem letter_letter_calls (r : Int) (w : World) :
    Calls Try.prog 131 #[.int .i32 r] w fun e w' => e = .returned (.bool (isLetter r)) ∧ w = w' := by
  go_enter Try.func131, Try.ntmps131
  go_wp2
  all_goals (go_ret; refine ⟨ret_bool ?_, rfl⟩; go_tidy; (try simp only [beq_iff_eq, beq_eq_false_iff_ne, ne_eq] at *); rw [Bool.eq_iff_iff]; first | (simp [isLetter]; done) | (simp [isLetter]; omega))

set_option maxHeartbeats 1000000 in
theorem ref01_letter_calls (r : Int) (w : World) :
    Calls Try.prog 103 #[.int .i32 r] w fun e w' => e = .returned (.bool (isLetter r)) ∧ w = w' := by
  go_enter Try.func103, Try.ntmps103
  go_wp2
  all_goals (go_ret; refine ⟨ret_bool ?_, rfl⟩; go_tidy; (try simp only [beq_iff_eq, beq_eq_false_iff_ne, ne_eq] at *); rw [Bool.eq_iff_iff]; first | (simp [isLetter]; done) | (simp [isLetter]; omega))

/-! ### runes -/
/-- The runes from a place on. -/
def runesFrom (s : ByteArray) : Nat → Nat → List Int
  | 0, _ => []
  | f + 1, pos => if pos < s.size then ((Utf8.decode s pos).1 : Int) :: runesFrom s f (pos + (Utf8.decode s pos).2) else []
def runes (s : ByteArray) : List Int := runesFrom s s.size 0
theorem runesFrom_end (s : ByteArray) (f pos : Nat) (h : ¬ pos < s.size) : runesFrom s f pos = [] := by
  cases f with
  | zero => rfl
  | succ f => simp [runesFrom, h]
theorem runesFrom_length (s : ByteArray) : ∀ f pos, (runesFrom s f pos).length ≤ f
  | 0, _ => by simp [runesFrom]
  | f + 1, pos => by
    have := runesFrom_length s f (pos + (Utf8.decode s pos).2)
    unfold runesFrom; split <;> simp; omega
theorem runes_length (s : ByteArray) : (runes s).length ≤ s.size := runesFrom_length _ _ _

/-- Not a name, counted from n on. -/
def wrongFrom : List Int → Nat → Bool
  | [], n => n == 0 || decide (32 < n)
  | r :: t, n => (!isLetter r && (n == 0 || !isDigit r)) || wrongFrom t (n + 1)
def nameRight (s : ByteArray) : Bool := !wrongFrom (runes s) 0

theorem wrong_step {r : Int} {t : List Int} {n : Nat} {W : Bool} (h : wrongFrom (r :: t) n = W) :
    (isLetter r = true → wrongFrom t (n + 1) = W) ∧ (¬ isLetter r = true → n ≠ 0 → 48 ≤ r → r ≤ 57 → wrongFrom t (n + 1) = W) ∧ (¬ isLetter r = true → (n = 0 ∨ r < 48 ∨ 57 < r) → true = W) := by
  subst h
  refine ⟨fun h => by simp [wrongFrom, h], fun h h0 h1 h2 => by simp [wrongFrom, h0, isDigit, h1, h2], fun h h1 => ?_⟩
  have : (n == 0 || !isDigit r) = true := by
    unfold isDigit
    rcases h1 with h1 | h1 | h1
    · simp [h1]
    · have : ¬ 48 ≤ r := by omega
      simp [this]
    · have : ¬ r ≤ 57 := by omega
      simp [this]
  simp [wrongFrom, h, this]

set_option maxHeartbeats 1000000 in
set_option maxRecDepth 100000 in
theorem letter_wrong_calls (s : ByteArray) (w : World) (hs : s.size ≤ 140737488355328) :
    Calls Try.prog 115 #[.string s] w fun e w' => e = .returned (.bool (wrongFrom (runes s) 0)) ∧ ∃ pos, w' = w.iter s pos := by
  go_enter Try.func115, Try.ntmps115
  go_wp2
  go_loopw [3] (fun n w' => ∃ (pos b : Nat) (acc : Nat), w' = w.iter s pos ∧ n = .int .i64 acc ∧ Aside0 (wrongFrom (runesFrom s b pos) acc = wrongFrom (runes s) 0) ∧ s.size ≤ pos + b ∧ acc ≤ pos) (fun _ w' => s.size - w'.iterPos w.heap.size)
  case atStart => exact ⟨0, s.size, 0, rfl, rfl, ⟨rfl⟩, by omega, Nat.le_refl _⟩
  case round =>
    obtain ⟨pos, b, acc, rfl, rfl, hc, hb, ha⟩ := hrel
    by_cases hp : pos < s.size
    · have hnx : ∀ ty, (Instr.next (.pointer (some ⟨w.heap.size, 0, none⟩)) true ty).run Try.prog (w.iter s pos) = _ := fun ty => run_next_any w s pos ty hp
      have hwd := Lib.decode_width_pos s pos hp
      obtain ⟨b, rfl⟩ : ∃ b', b = b' + 1 := ⟨b - 1, by omega⟩
      have HS := Lib.hid (wrong_step (show wrongFrom (((Utf8.decode s pos).1 : Int) :: runesFrom s b (pos + (Utf8.decode s pos).2)) acc = wrongFrom (runes s) 0 from by have := hc.out; rw [runesFrom, if_pos hp] at this; exact this))
      clear hc
      go_wp2_with (go_at_call 131; refine (letter_letter_calls _ _).mono ?_; rintro e w' ⟨rfl, rfl⟩)
      all_goals first
        | (go_roundw
           case rel =>
             refine ⟨_, b, acc + 1, rfl, by go_num, ⟨?_⟩, by omega, by omega⟩
             first | exact HS.out.1 (by assumption) | exact HS.out.2.1 (by assumption) (by omega) (by omega) (by omega)
           case measure => simp; omega)
        | (go_ret
           refine ⟨ret_bool (HS.out.2.2 (by assumption) (by go_tidy; (try simp only [beq_iff_eq] at *); omega)), _, rfl⟩)
    · have hnx : ∀ ty, (Instr.next (.pointer (some ⟨w.heap.size, 0, none⟩)) true ty).run Try.prog (w.iter s pos) = _ := fun ty => run_next_end w s pos ty hp
      have HS := Lib.hid (show (acc == 0 || decide (32 < acc)) = wrongFrom (runes s) 0 from by have := hc.out; rw [runesFrom_end s b pos hp] at this; exact this)
      clear hc
      go_wp2
      all_goals
        go_ret
        refine ⟨ret_bool ?_, _, rfl⟩
        rw [← HS.out, Bool.eq_iff_iff]
        simp
        omega

theorem IdxFunc_enters_wrong : ∀ args w, (callFunc 115 args).run Try.prog w = .ok (.enter 115 args) w := enters_of Try.func115 (by kernel_rfl) rfl

end Go.Proofs.Ytonbnlfijmapfaa
/- The reference's Runes, Right, Compare. No condition but on sizes. -/
namespace Go.Proofs.Ytonbnlfijmapfaa
open Go.RowKit Go.Shelf Go.Proofs.YtonbnlfijmapfaaW.PrintWords
set_option linter.unusedVariables false
set_option linter.unusedSimpArgs false

set_option maxHeartbeats 1000000 in
set_option maxRecDepth 100000 in
theorem ref01_Runes_calls (s : ByteArray) (w : World) (hs : s.size ≤ 2000000) :
    Calls Try.prog 102 #[.string s] w fun e w' => (∃ v, e = .returned v ∧ (Kd.int .i32).R 21 w' w.heap.size (fun _ => True) v (runes s)) ∧ Below w.heap.size w w' := by
  go_enter Try.func102, Try.ntmps102
  go_wp2
  go_loopw [3] (fun v wr => ∃ (pos b : Nat) (acc : List Int), wr.heap[w.heap.size]? = some (.stringIter s pos) ∧ (Kd.int .i32).R 21 wr (w.heap.size + 1) (fun _ => True) v acc ∧ Below w.heap.size w wr ∧ Aside0 (acc ++ runesFrom s b pos = runes s) ∧ s.size ≤ pos + b ∧ acc.length ≤ pos ∧ w.heap.size + 1 ≤ wr.heap.size) (fun _ wr => s.size - wr.iterPos w.heap.size)
  case atStart => exact ⟨0, s.size, [], World.iter_heap w s 0, Kd.R_nil _ _ _ _ _, (Below.refl _ _).alloc (Nat.le_refl _) _, ⟨rfl⟩, by omega, Nat.le_refl _, by simp [World.iter]⟩
  case round =>
    obtain ⟨pos, b, acc, hk, hR, hB, hc, hb, ha, hsz⟩ := hrel
    by_cases hp : pos < s.size
    · have hnx : ∀ ty, (Instr.next (.pointer (some ⟨w.heap.size, 0, none⟩)) true ty).run Try.prog wr = _ := fun ty => Lib.run_next_any_at wr w.heap.size s pos ty hk hp
      have hwd := Lib.decode_width_pos s pos hp
      obtain ⟨b, rfl⟩ : ∃ b', b = b' + 1 := ⟨b - 1, by omega⟩
      have HC := Lib.hid hc; clear hc
      have HK := Lib.hid hk; clear hk
      have HR := Lib.hid (R_iterAt hR (Nat.lt_succ_self _) s (pos + (Utf8.decode s pos).2)); clear hR
      have HB := Lib.hid (Lib.below_iterAt hB (Nat.le_refl _) s (pos + (Utf8.decode s pos).2)); clear hB
      have HZ := Lib.hid (Lib.iterAt_heap wr w.heap.size s pos (pos + (Utf8.decode s pos).2) HK.out)
      have hS : w.heap.size + 1 ≤ (wr.iterAt w.heap.size s (pos + (Utf8.decode s pos).2)).heap.size := by rw [Lib.iterAt_size]; exact hsz
      go_wp2_with (at_builtin; refine app_one HR.out info_i32 Try.underlying159 (M_int _) (fun _ _ => trivial) hS ?aL rfl (by decide) (by decide) rfl rfl rfl rfl ?_; (case aL => omega); intro v1 w1 hR1 hb1 hg1 hat1)
      go_roundw
      case rel =>
        refine ⟨pos + (Utf8.decode s pos).2, b, acc ++ [((Utf8.decode s pos).1 : Int)], (hb1.block _ (Nat.lt_succ_self _)).trans HZ.out, hR1, HB.out.trans (below_down hb1 (Nat.le_succ _)), ⟨?_⟩, by omega, by rw [List.length_append, List.length_singleton]; omega, Nat.le_trans hS hb1.size⟩
        have := HC.out.out
        rw [runesFrom, if_pos hp] at this
        rw [← this]; simp
      case measure => rw [iterPos_of ((hb1.block _ (Nat.lt_succ_self _)).trans HZ.out), iterPos_of HK.out]; omega
    · have hnx : ∀ ty, (Instr.next (.pointer (some ⟨w.heap.size, 0, none⟩)) true ty).run Try.prog wr = _ := fun ty => Lib.run_next_end_at wr w.heap.size s pos ty hk hp
      have HC := Lib.hid hc; clear hc
      have HR := Lib.hid hR; clear hR
      clear hk
      go_wp2
      go_ret
      have := HC.out.out
      rw [runesFrom_end s b pos hp, List.append_nil] at this
      subst this
      exact ⟨⟨_, rfl, Kd.R_lower HR.out (Nat.le_succ _)⟩, hB⟩
end Go.Proofs.Ytonbnlfijmapfaa
/- slices.IndexFunc, ContainsFunc at strings, ints and values; letter.Right; value.thing, Right. No condition but on sizes. -/
namespace Go.Proofs.Ytonbnlfijmapfaa
open Go.RowKit Go.Shelf Go.Proofs.YtonbnlfijmapfaaW.PrintWords
set_option linter.unusedVariables false
set_option linter.unusedSimpArgs false

def idxP {α : Type} (p : α → Bool) : List α → Nat → Int
  | [], _ => -1
  | x :: t, k => if p x = true then (k : Int) else idxP p t (k + 1)
theorem idxP_any {α : Type} (p : α → Bool) : ∀ (xs : List α) (k : Nat), decide (0 ≤ idxP p xs k) = xs.any p
  | [], _ => by simp [idxP]
  | x :: t, k => by
    have := idxP_any p t (k + 1)
    by_cases h : p x = true
    · simp [idxP, h]
    · simp [idxP, h, this]

/-- What is asked of a predicate on what a list has. -/
def PredOn {α : Type} (P : Program) (g : Nat) (lb : Array Value) (enc : α → Value) (p : α → Bool) (w : World) (xs : List α) : Prop :=
  ∀ (W : World) (x : α), x ∈ xs → Below w.heap.size w W → Calls P g (#[enc x] ++ lb) W fun e w' => e = .returned (.bool (p x)) ∧ Below W.heap.size W w'


set_option maxHeartbeats 1000000 in
theorem IndexFunc_string_calls (g : Nat) (lb : Array Value) (eg : ∀ args w, (callFunc g args).run Try.prog w = .ok (.enter g args) w) (p : ByteArray → Bool) (A : Option Addr) (c : Nat) (xs : List ByteArray) (w : World)
    (h : (Kd.string).C w A xs.length xs) (hp : PredOn Try.prog g lb (.string) p w xs) :
    Calls Try.prog 130 #[.slice A xs.length c, .func (.func g) #[] lb] w fun e w' => e = .returned (.int .i64 (idxP p xs 0)) ∧ Below w.heap.size w w' := by
  have hm := Kd.C_max h
  have HP := Lib.hid hp; clear hp
  have HX := Lib.hid h; clear h
  go_enter Try.func130, Try.ntmps130
  go_wp2
  go_loopw [5, 8] (fun _ s8 wr => ∃ k : Nat, k ≤ xs.length ∧ s8 = .int .i64 k ∧ Hid (Below w.heap.size w wr) ∧ Hid (idxP p (xs.drop k) k = idxP p xs 0)) (fun _ s8 _ => xs.length - (intOf s8).toNat)
  case atStart => exact ⟨0, Nat.zero_le _, rfl, Lib.hid (Below.refl _ w), Lib.hid rfl⟩
  case round =>
    obtain ⟨k, hk, rfl, HB, HI⟩ := hrel
    by_cases hlt : k < xs.length
    · have hlt2 : (k : Int) < (xs.length : Int) := by omega
      obtain ⟨ad, rfl, g0⟩ := Kd.at_string (Kd.C_below HX.out HB.out) (k : Int) (by omega) (by omega)
      simp only [Int.toNat_natCast] at g0
      have hcall := HP.out wr (rdOf ByteArray.empty xs (k : Int)) (by simp [rd, rdOf, List.getD_eq_getElem?_getD, List.getElem?_eq_getElem hlt]) HB.out
      have HD := Lib.hid (drop_cons xs k ByteArray.empty hlt)
      have hr : Hid (rdOf ByteArray.empty xs (k : Int) = xs.getD k ByteArray.empty) := Lib.hid (by simp [rd, rdOf])
      generalize rdOf ByteArray.empty xs (k : Int) = y at *
      cases hq : p y with
      | true =>
        rw [hq] at hcall
        go_wp2_with (go_at_fn g; refine hcall.mono ?_; rintro e w' ⟨rfl, hb'⟩)
        go_ret
        refine ⟨ret_int ?_, HB.out.trans (below_down hb' HB.out.size)⟩
        have := HI.out; rw [HD.out, ← hr.out] at this
        rw [← this]; simp [idxP, hq]
      | false =>
        rw [hq] at hcall
        go_wp2_with (go_at_fn g; refine hcall.mono ?_; rintro e w' ⟨rfl, hb'⟩)
        go_roundw
        case rel =>
          refine ⟨k + 1, by omega, by go_num, Lib.hid (HB.out.trans (below_down hb' HB.out.size)), Lib.hid ?_⟩
          have := HI.out; rw [HD.out, ← hr.out] at this
          rw [← this]; simp [idxP, hq]
        case measure => simp [intOf]; omega
    · have hlt2 : ¬ (k : Int) < (xs.length : Int) := by omega
      go_wp2
      go_ret
      refine ⟨ret_int ?_, HB.out⟩
      have := HI.out; rw [List.drop_eq_nil_of_le (by omega)] at this
      rw [← this]; rfl

set_option maxHeartbeats 1000000 in
theorem ContainsFunc_string_calls (g : Nat) (lb : Array Value) (eg : ∀ args w, (callFunc g args).run Try.prog w = .ok (.enter g args) w) (p : ByteArray → Bool) (A : Option Addr) (c : Nat) (xs : List ByteArray) (w : World)
    (h : (Kd.string).C w A xs.length xs) (hp : PredOn Try.prog g lb (.string) p w xs) :
    Calls Try.prog 114 #[.slice A xs.length c, .func (.func g) #[] lb] w fun e w' => e = .returned (.bool (xs.any p)) ∧ Below w.heap.size w w' := by
  have HP := Lib.hid hp; clear hp
  have HX := Lib.hid h; clear h
  go_enter Try.func114, Try.ntmps114
  go_wp2_with (go_at_call 130; refine (IndexFunc_string_calls g lb eg p A c xs w HX.out HP.out).mono ?_; rintro e w' ⟨rfl, hb'⟩)
  go_ret
  exact ⟨ret_bool (idxP_any p xs 0), hb'⟩

set_option maxHeartbeats 1000000 in
theorem IndexFunc_int_calls (g : Nat) (lb : Array Value) (eg : ∀ args w, (callFunc g args).run Try.prog w = .ok (.enter g args) w) (p : Int → Bool) (A : Option Addr) (c : Nat) (xs : List Int) (w : World)
    (h : (Kd.int .i64).C w A xs.length xs) (hp : PredOn Try.prog g lb (.int .i64) p w xs) :
    Calls Try.prog 113 #[.slice A xs.length c, .func (.func g) #[] lb] w fun e w' => e = .returned (.int .i64 (idxP p xs 0)) ∧ Below w.heap.size w w' := by
  have hm := Kd.C_max h
  have HP := Lib.hid hp; clear hp
  have HX := Lib.hid h; clear h
  go_enter Try.func113, Try.ntmps113
  go_wp2
  go_loopw [5, 8] (fun _ s8 wr => ∃ k : Nat, k ≤ xs.length ∧ s8 = .int .i64 k ∧ Hid (Below w.heap.size w wr) ∧ Hid (idxP p (xs.drop k) k = idxP p xs 0)) (fun _ s8 _ => xs.length - (intOf s8).toNat)
  case atStart => exact ⟨0, Nat.zero_le _, rfl, Lib.hid (Below.refl _ w), Lib.hid rfl⟩
  case round =>
    obtain ⟨k, hk, rfl, HB, HI⟩ := hrel
    by_cases hlt : k < xs.length
    · have hlt2 : (k : Int) < (xs.length : Int) := by omega
      obtain ⟨ad, rfl, g0⟩ := Kd.at_int (Kd.C_below HX.out HB.out) (k : Int) (by omega) (by omega)
      simp only [Int.toNat_natCast] at g0
      have hcall := HP.out wr (rd xs (k : Int)) (by simp [rd, rdOf, List.getD_eq_getElem?_getD, List.getElem?_eq_getElem hlt]) HB.out
      have HD := Lib.hid (drop_cons xs k 0 hlt)
      have hr : Hid (rd xs (k : Int) = xs.getD k 0) := Lib.hid (by simp [rd, rdOf])
      generalize rd xs (k : Int) = y at *
      cases hq : p y with
      | true =>
        rw [hq] at hcall
        go_wp2_with (go_at_fn g; refine hcall.mono ?_; rintro e w' ⟨rfl, hb'⟩)
        go_ret
        refine ⟨ret_int ?_, HB.out.trans (below_down hb' HB.out.size)⟩
        have := HI.out; rw [HD.out, ← hr.out] at this
        rw [← this]; simp [idxP, hq]
      | false =>
        rw [hq] at hcall
        go_wp2_with (go_at_fn g; refine hcall.mono ?_; rintro e w' ⟨rfl, hb'⟩)
        go_roundw
        case rel =>
          refine ⟨k + 1, by omega, by go_num, Lib.hid (HB.out.trans (below_down hb' HB.out.size)), Lib.hid ?_⟩
          have := HI.out; rw [HD.out, ← hr.out] at this
          rw [← this]; simp [idxP, hq]
        case measure => simp [intOf]; omega
    · have hlt2 : ¬ (k : Int) < (xs.length : Int) := by omega
      go_wp2
      go_ret
      refine ⟨ret_int ?_, HB.out⟩
      have := HI.out; rw [List.drop_eq_nil_of_le (by omega)] at this
      rw [← this]; rfl

set_option maxHeartbeats 1000000 in
theorem ContainsFunc_int_calls (g : Nat) (lb : Array Value) (eg : ∀ args w, (callFunc g args).run Try.prog w = .ok (.enter g args) w) (p : Int → Bool) (A : Option Addr) (c : Nat) (xs : List Int) (w : World)
    (h : (Kd.int .i64).C w A xs.length xs) (hp : PredOn Try.prog g lb (.int .i64) p w xs) :
    Calls Try.prog 83 #[.slice A xs.length c, .func (.func g) #[] lb] w fun e w' => e = .returned (.bool (xs.any p)) ∧ Below w.heap.size w w' := by
  have HP := Lib.hid hp; clear hp
  have HX := Lib.hid h; clear h
  go_enter Try.func83, Try.ntmps83
  go_wp2_with (go_at_call 113; refine (IndexFunc_int_calls g lb eg p A c xs w HX.out HP.out).mono ?_; rintro e w' ⟨rfl, hb'⟩)
  go_ret
  exact ⟨ret_bool (idxP_any p xs 0), hb'⟩


set_option maxHeartbeats 1000000 in
theorem letter_Right_calls (A : Option Addr) (c : Nat) (xs : List ByteArray) (w : World) (h : Kd.string.C w A xs.length xs) (hs : ∀ x ∈ xs, x.size ≤ 140737488355328) :
    Calls Try.prog 85 #[.slice A xs.length c] w fun e w' => e = .returned (.bool (!xs.any fun s => wrongFrom (runes s) 0)) ∧ Below w.heap.size w w' := by
  have HP : Hid (PredOn Try.prog 115 #[] .string (fun s => wrongFrom (runes s) 0) w xs) := Lib.hid fun W x hx hB => (letter_wrong_calls x W (hs x hx)).mono fun e w' ⟨he, pos, hw⟩ => ⟨he, by subst hw; exact (Below.refl _ _).alloc (Nat.le_refl _) _⟩
  have HX := Lib.hid h; clear h
  go_enter Try.func85, Try.ntmps85
  go_wp2_with (go_at_call 114; refine (ContainsFunc_string_calls 115 #[] IdxFunc_enters_wrong _ A c xs w HX.out HP.out).mono ?_; rintro e w' ⟨rfl, hb'⟩)
  go_ret
  exact ⟨rfl, hb'⟩

theorem letter_Right_one (A : Option Addr) (c : Nat) (s : ByteArray) (w : World) (h : Kd.string.C w A [s].length [s]) (hs : s.size ≤ 140737488355328) (b : Bool) (hb : nameRight s = b) :
    Calls Try.prog 85 #[.slice A 1 c] w fun e w' => e = .returned (.bool b) ∧ Below w.heap.size w w' :=
  (letter_Right_calls A c [s] w h (by simpa using hs)).mono fun e w' ⟨he, hw⟩ => ⟨by rw [he, ← hb]; simp [nameRight], hw⟩
end Go.Proofs.Ytonbnlfijmapfaa
/- letter.Compare and the reference's Compare: texts rune by rune; the reference's Right. No condition but on sizes. -/
namespace Go.Proofs.Ytonbnlfijmapfaa
open Go.RowKit Go.Shelf Go.Proofs.YtonbnlfijmapfaaW.PrintWords
set_option linter.unusedVariables false
set_option linter.unusedSimpArgs false

def cmpL : List Int → List Int → Int
  | [], [] => 0
  | [], _ :: _ => -1
  | _ :: _, [] => 1
  | x :: xs, y :: ys => if x < y then -1 else if y < x then 1 else cmpL xs ys

theorem runes_of (s : ByteArray) : ∀ (f pos : Nat) (acc : Array Value), (Conv.runesFrom s f pos acc).toList = acc.toList ++ (runesFrom s f pos).map (Value.int .i32)
  | 0, _, acc => by simp [Conv.runesFrom, runesFrom]
  | f + 1, pos, acc => by
    unfold Conv.runesFrom runesFrom
    split
    · rw [runes_of s f]; simp
    · simp
theorem runes_conv_size (s : ByteArray) : (Conv.runesFrom s s.size 0 #[]).size = (runes s).length := by
  rw [← Array.length_toList, runes_of]; simp [runes]

/-- '[]rune(s)', behind one name. -/
theorem runes_conv (w : World) (s : ByteArray) (hs : s.size ≤ 70368744177664) :
    ∃ A cap W', (convert 9 159 (.string s)).run Try.prog w = .ok (.slice A (runes s).length cap) W' ∧ (Kd.int .i32).C W' A (runes s).length (runes s) ∧ Below w.heap.size w W' := by
  have hl := runes_length s
  have h := run_runes_of_string w 9 159 21 s Try.underlying9 Try.underlying159 Try.underlying21 (by rw [runes_conv_size]; omega)
  rw [runes_conv_size] at h
  refine ⟨_, _, _, h, ?_, (below_drew (Below.refl w.heap.size w)).alloc (Nat.le_refl _) _⟩
  refine Kd.C_of_reads (d := (0 : Int)) ⟨rfl, by omega, fun hn => ⟨_, rfl, fun j hj => ?_⟩⟩
  rw [add_plain]
  rw [show (w.drew.alloc (.cells (Conv.runesFrom s s.size 0 #[] ++ Array.replicate (grownCap w (runes s).length 0 21 - (runes s).length) (.int .i32 0)) 21)).cell? ⟨w.heap.size, j, none⟩ = _ from cell_of_row _ _ _ _ _ _ (heap_alloc_new w.drew _)]
  rw [Array.getElem?_append_left (by rw [runes_conv_size]; exact hj), ← Array.getElem?_toList, runes_of]
  simp [runes] at hj ⊢
  simp [hj, List.getD_eq_getElem?_getD]

set_option maxHeartbeats 1000000 in
theorem cmp_isNaN_rune_calls (x : Int) (w : World) : Calls Try.prog 159 #[.int .i32 x] w fun e w' => e = .returned (.bool false) ∧ w = w' := by
  go_enter Try.func159, Try.ntmps159
  go_wp2
  go_ret
  exact ⟨rfl, rfl⟩

def cmpI (x y : Int) : Int := if x < y then -1 else if y < x then 1 else 0
set_option maxHeartbeats 1000000 in
theorem cmp_Compare_rune_calls (x y : Int) (w : World) : Calls Try.prog 157 #[.int .i32 x, .int .i32 y] w fun e w' => e = .returned (.int .i64 (cmpI x y)) ∧ w = w' := by
  rcases Int.lt_trichotomy x y with h | h | h
  · have h1 : ¬ y < x := by omega
    go_enter Try.func157, Try.ntmps157
    go_wp2_with (go_at_call 159; refine (cmp_isNaN_rune_calls _ _).mono ?_; rintro e w' ⟨rfl, rfl⟩)
    go_ret
    exact ⟨by simp [cmpI, h], rfl⟩
  · subst h
    go_enter Try.func157, Try.ntmps157
    go_wp2_with (go_at_call 159; refine (cmp_isNaN_rune_calls _ _).mono ?_; rintro e w' ⟨rfl, rfl⟩)
    go_ret
    exact ⟨by simp [cmpI], rfl⟩
  · have h1 : ¬ x < y := by omega
    go_enter Try.func157, Try.ntmps157
    go_wp2_with (go_at_call 159; refine (cmp_isNaN_rune_calls _ _).mono ?_; rintro e w' ⟨rfl, rfl⟩)
    go_ret
    exact ⟨by simp [cmpI, h, h1], rfl⟩

theorem cmpL_step {xs ys : List Int} {k : Nat} (hx : k < xs.length) (hy : k < ys.length) :
    cmpL (xs.drop k) (ys.drop k) = if cmpI (rd xs k) (rd ys k) ≠ 0 then cmpI (rd xs k) (rd ys k) else cmpL (xs.drop (k + 1)) (ys.drop (k + 1)) := by
  rw [drop_cons xs k 0 hx, drop_cons ys k 0 hy]
  have e : ∀ (a b : Int) (s t : List Int), cmpL (a :: s) (b :: t) = if cmpI a b ≠ 0 then cmpI a b else cmpL s t := by
    intro a b s t
    rw [show cmpL (a :: s) (b :: t) = if a < b then -1 else if b < a then 1 else cmpL s t from rfl]
    unfold cmpI
    by_cases h1 : a < b
    · simp [h1]
    · by_cases h2 : b < a
      · simp [h1, h2]
      · simp [h1, h2]
  rw [e]; simp [rd]
theorem cmpL_end {xs ys : List Int} {k : Nat} (hx : k ≤ xs.length) (hy : k ≤ ys.length) (h : k = xs.length ∨ k = ys.length) :
    cmpL (xs.drop k) (ys.drop k) = cmpI xs.length ys.length := by
  rcases Nat.lt_trichotomy xs.length ys.length with h1 | h1 | h1
  · have : k = xs.length := by omega
    subst this
    rw [List.drop_length, drop_cons ys _ 0 h1]; simp [cmpL, cmpI, h1]
  · have : k = xs.length := by omega
    subst this
    rw [List.drop_length, h1, List.drop_length]; simp [cmpL, cmpI]
  · have : k = ys.length := by omega
    subst this
    rw [List.drop_length, drop_cons xs _ 0 h1]; simp [cmpL, cmpI]; omega

set_option maxHeartbeats 2000000 in
theorem slices_Compare_rune_calls (A B : Option Addr) (ca cb : Nat) (xs ys : List Int) (w : World) (hx : (Kd.int .i32).C w A xs.length xs) (hy : (Kd.int .i32).C w B ys.length ys) :
    Calls Try.prog 150 #[.slice A xs.length ca, .slice B ys.length cb] w fun e w' => e = .returned (.int .i64 (cmpL xs ys)) ∧ w = w' := by
  have m1 := Kd.C_max hx
  have m2 := Kd.C_max hy
  have HX := Lib.hid hx; clear hx
  have HY := Lib.hid hy; clear hy
  go_enter Try.func150, Try.ntmps150
  go_wp2
  go_loop [11] (fun s => ∃ k : Nat, k ≤ xs.length ∧ k ≤ ys.length ∧ s = .int .i64 k ∧ Hid (cmpL (xs.drop k) (ys.drop k) = cmpL xs ys)) (fun s => xs.length - (intOf s).toNat)
  case atStart => exact ⟨0, Nat.zero_le _, Nat.zero_le _, rfl, Lib.hid rfl⟩
  case round =>
    obtain ⟨k, hk, hk2, rfl, HI⟩ := hrel
    by_cases hlt : k < xs.length
    · obtain ⟨ad, rfl, g0⟩ := Kd.at_int HX.out (k : Int) (by omega) (by omega)
      simp only [Int.toNat_natCast] at g0
      by_cases hlt2 : k < ys.length
      · obtain ⟨bd, rfl, g1⟩ := Kd.at_int HY.out (k : Int) (by omega) (by omega)
        simp only [Int.toNat_natCast] at g1
        have HS := Lib.hid (cmpL_step hlt hlt2)
        generalize rd xs (k : Int) = x at *
        generalize rd ys (k : Int) = y at *
        rcases Int.lt_trichotomy x y with h | h | h
        · have hc : cmpI x y = -1 := by simp [cmpI, h]
          go_wp2_with (go_at_call 157; refine (cmp_Compare_rune_calls _ _ _).mono ?_; rintro e w' ⟨rfl, rfl⟩)
          go_ret
          exact ⟨ret_int (by rw [← HI.out, HS.out, hc]; rfl), rfl⟩
        · have hc : cmpI x y = 0 := by simp [cmpI, h]
          have HH := Lib.hid h; clear h
          go_wp2_with (go_at_call 157; refine (cmp_Compare_rune_calls _ _ _).mono ?_; rintro e w' ⟨rfl, rfl⟩)
          go_round
          case rel => exact ⟨k + 1, by omega, by omega, by go_num, Lib.hid (by rw [← HI.out, HS.out, hc]; rfl)⟩
          case measure => simp [intOf]; omega
        · have hc : cmpI x y = 1 := by have : ¬ x < y := by omega
                                       simp [cmpI, h, this]
          go_wp2_with (go_at_call 157; refine (cmp_Compare_rune_calls _ _ _).mono ?_; rintro e w' ⟨rfl, rfl⟩)
          go_ret
          exact ⟨ret_int (by rw [← HI.out, HS.out, hc]; rfl), rfl⟩
      · have HE := Lib.hid (cmpL_end hk hk2 (by omega))
        go_wp2
        go_ret
        exact ⟨ret_int (by rw [← HI.out, HE.out]; unfold cmpI; rw [if_neg (by omega), if_pos (by omega)]), rfl⟩
    · have HE := Lib.hid (cmpL_end hk hk2 (by omega))
      by_cases hlt2 : xs.length < ys.length
      · go_wp2
        go_ret
        exact ⟨ret_int (by rw [← HI.out, HE.out]; unfold cmpI; rw [if_pos (by omega)]), rfl⟩
      · go_wp2
        go_ret
        exact ⟨ret_int (by rw [← HI.out, HE.out]; unfold cmpI; rw [if_neg (by omega), if_neg (by omega)]), rfl⟩

/-- Texts, rune by rune. -/
def cmpS (a b : ByteArray) : Int := cmpL (runes a) (runes b)
set_option maxHeartbeats 1000000 in
theorem letter_Compare_calls (a b : ByteArray) (w : World) (ha : a.size ≤ 70368744177664) (hb : b.size ≤ 70368744177664) :
    Calls Try.prog 134 #[.string a, .string b] w fun e w' => e = .returned (.int .i64 (cmpS a b)) ∧ Below w.heap.size w w' := by
  obtain ⟨A1, c1, w1, e1, r1, b1⟩ := runes_conv w a ha
  obtain ⟨A2, c2, w2, e2, r2, b2⟩ := runes_conv w1 b hb
  have R1 := Lib.hid (Kd.C_below r1 b2); clear r1
  have R2 := Lib.hid r2; clear r2
  have B := Lib.hid (b1.trans (below_down b2 b1.size)); clear b1 b2
  go_enter Try.func134, Try.ntmps134
  go_wp2_with (go_at_call 150; refine (slices_Compare_rune_calls _ _ _ _ _ _ _ R1.out R2.out).mono ?_; rintro e w' ⟨rfl, rfl⟩)
  go_ret
  exact ⟨rfl, B.out⟩
end Go.Proofs.Ytonbnlfijmapfaa
