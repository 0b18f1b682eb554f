/- The kinds of the program's plain values (Value, Prop, Vertex, Edge, Entry, Key), as data in Lean, and how they lie in cells. No condition. -/
import Derived.Test.YtonbnlfijmapfaaProg
import Derived.Test.YtonbnlfijmapfaaWWords
import Derived.WalkKit
import Derived.KernelRfl
import Derived.WalkSpells
import Derived.WalkLawsBesides
import Derived.Deep.QuietTactic
import Derived.BigQuiet
import Derived.Deep.RegionHeld3
import Derived.Lib.Hide
namespace Go.Proofs.Ytonbnlfijmapfaa
open Go.RowKit Go.Proofs.YtonbnlfijmapfaaW.PrintWords
set_option linter.unusedVariables false
set_option linter.unusedSimpArgs false
set_option linter.unusedVariables false

/-! #### struct type 42 -/
structure SValue where
  f0 : Int
  f1 : Int
  f2 : ByteArray
def zValue : SValue := ⟨(0 : Int), (0 : Int), (⟨#[]⟩ : ByteArray)⟩
def kValue : Kd SValue := Kd.iso (Kd.pair (Kd.int .i64) (Kd.pair (Kd.int .i64) Kd.string)) (fun x : SValue => (x.f0, x.f1, x.f2))
theorem kValue_open {w : World} {x : SValue} {cs : List Value} (h : kValue.K w x cs) : cs = [.int .i64 x.f0, .int .i64 x.f1, .string x.f2] := by
  obtain ⟨_, _, rfl, rfl, ⟨_, _, rfl, rfl, rfl⟩⟩ := h
  exact rfl
theorem kValue_openM {w : World} {base : Nat} {ok : Nat → Prop} {x : SValue} {cs : List Value} (h : kValue.M w base ok x cs) : cs = [.int .i64 x.f0, .int .i64 x.f1, .string x.f2] := by
  obtain ⟨_, _, rfl, rfl, ⟨_, _, rfl, rfl, rfl⟩⟩ := h
  exact rfl
theorem kValue_mk (w : World) (x : SValue)  : kValue.K w x [.int .i64 x.f0, .int .i64 x.f1, .string x.f2] := ⟨[.int .i64 x.f0], [.int .i64 x.f1, .string x.f2], rfl, rfl, ⟨[.int .i64 x.f1], [.string x.f2], rfl, rfl, rfl⟩⟩
theorem kValue_mkM (w : World) (base : Nat) (ok : Nat → Prop) (x : SValue)  : kValue.M w base ok x [.int .i64 x.f0, .int .i64 x.f1, .string x.f2] := ⟨[.int .i64 x.f0], [.int .i64 x.f1, .string x.f2], rfl, rfl, ⟨[.int .i64 x.f1], [.string x.f2], rfl, rfl, rfl⟩⟩
def rd_Value (xs : List SValue) (i : Int) : SValue := xs.getD i.toNat zValue
theorem at_Value {w : World} {A : Option Addr} {n : Nat} {xs : List SValue} (h : Kd.C kValue w A n xs) (i : Int) (h0 : 0 ≤ i) (h1 : i < n) : ∃ ad , A = some ad ∧ w.cell? (ad.add (i.toNat * 3)) = some (.int .i64 (rd_Value xs i).f0) ∧ w.cell? ⟨(ad.add (i.toNat * 3)).block, (ad.add (i.toNat * 3)).off + 1, none⟩ = some (.int .i64 (rd_Value xs i).f1) ∧ w.cell? ⟨(ad.add (i.toNat * 3)).block, (ad.add (i.toNat * 3)).off + 2, none⟩ = some (.string (rd_Value xs i).f2) := by
  obtain ⟨ad, c, e, _, hK, hc0⟩ := Kd.C_get h zValue i h0 h1
  have hc : ∀ j u, c[j]? = some u → w.cell? (ad.add (i.toNat * 3 + j)) = some u := hc0
  obtain rfl := kValue_open hK
  exact ⟨ad, e, hc 0 _ rfl, by rw [← add_field _ _ 1 (by omega)]; exact hc 1 _ rfl, by rw [← add_field _ _ 2 (by omega)]; exact hc 2 _ rfl⟩

/-! #### struct type 117 -/
structure SPrp where
  f0 : ByteArray
  f1 : SValue
def zPrp : SPrp := ⟨(⟨#[]⟩ : ByteArray), zValue⟩
def kPrp : Kd SPrp := Kd.iso (Kd.pair Kd.string kValue) (fun x : SPrp => (x.f0, x.f1))
theorem kPrp_open {w : World} {x : SPrp} {cs : List Value} (h : kPrp.K w x cs) : cs = [.string x.f0, .int .i64 x.f1.f0, .int .i64 x.f1.f1, .string x.f1.f2] := by
  obtain ⟨_, _, rfl, rfl, s1⟩ := h
  obtain rfl := kValue_open s1
  exact rfl
theorem kPrp_openM {w : World} {base : Nat} {ok : Nat → Prop} {x : SPrp} {cs : List Value} (h : kPrp.M w base ok x cs) : cs = [.string x.f0, .int .i64 x.f1.f0, .int .i64 x.f1.f1, .string x.f1.f2] := by
  obtain ⟨_, _, rfl, rfl, s1⟩ := h
  obtain rfl := kValue_openM s1
  exact rfl
theorem kPrp_mk (w : World) (x : SPrp)  : kPrp.K w x [.string x.f0, .int .i64 x.f1.f0, .int .i64 x.f1.f1, .string x.f1.f2] := ⟨[.string x.f0], [.int .i64 x.f1.f0, .int .i64 x.f1.f1, .string x.f1.f2], rfl, rfl, (kValue_mk w x.f1 )⟩
theorem kPrp_mkM (w : World) (base : Nat) (ok : Nat → Prop) (x : SPrp)  : kPrp.M w base ok x [.string x.f0, .int .i64 x.f1.f0, .int .i64 x.f1.f1, .string x.f1.f2] := ⟨[.string x.f0], [.int .i64 x.f1.f0, .int .i64 x.f1.f1, .string x.f1.f2], rfl, rfl, (kValue_mkM w base ok x.f1 )⟩
def rd_Prp (xs : List SPrp) (i : Int) : SPrp := xs.getD i.toNat zPrp
theorem at_Prp {w : World} {A : Option Addr} {n : Nat} {xs : List SPrp} (h : Kd.C kPrp w A n xs) (i : Int) (h0 : 0 ≤ i) (h1 : i < n) : ∃ ad , A = some ad ∧ w.cell? (ad.add (i.toNat * 4)) = some (.string (rd_Prp xs i).f0) ∧ w.cell? ⟨(ad.add (i.toNat * 4)).block, (ad.add (i.toNat * 4)).off + 1, none⟩ = some (.int .i64 (rd_Prp xs i).f1.f0) ∧ w.cell? ⟨(ad.add (i.toNat * 4)).block, (ad.add (i.toNat * 4)).off + 2, none⟩ = some (.int .i64 (rd_Prp xs i).f1.f1) ∧ w.cell? ⟨(ad.add (i.toNat * 4)).block, (ad.add (i.toNat * 4)).off + 3, none⟩ = some (.string (rd_Prp xs i).f1.f2) := by
  obtain ⟨ad, c, e, _, hK, hc0⟩ := Kd.C_get h zPrp i h0 h1
  have hc : ∀ j u, c[j]? = some u → w.cell? (ad.add (i.toNat * 4 + j)) = some u := hc0
  obtain rfl := kPrp_open hK
  exact ⟨ad, e, hc 0 _ rfl, by rw [← add_field _ _ 1 (by omega)]; exact hc 1 _ rfl, by rw [← add_field _ _ 2 (by omega)]; exact hc 2 _ rfl, by rw [← add_field _ _ 3 (by omega)]; exact hc 3 _ rfl⟩

def rd_slPrp (xs : List (List SPrp)) (i : Int) : (List SPrp) := xs.getD i.toNat ([] : List SPrp)
theorem at_slPrp {w : World} {A : Option Addr} {n : Nat} {xs : List (List SPrp)} (h : Kd.C (Kd.slice 117 kPrp) w A n xs) (i : Int) (h0 : 0 ≤ i) (h1 : i < n) : ∃ ad A0 c0, A = some ad ∧ w.cell? (ad.add i.toNat) = some (.slice A0 (rd_slPrp xs i).length c0) ∧ (rd_slPrp xs i).length ≤ c0 ∧ kPrp.C w A0 (rd_slPrp xs i).length (rd_slPrp xs i) := by
  obtain ⟨ad, c, e, _, hK, hc0⟩ := Kd.C_get h ([] : List SPrp) i h0 h1
  have hc : ∀ j u, c[j]? = some u → w.cell? (ad.add (i.toNat * 1 + j)) = some u := hc0
  obtain ⟨A0, c0, rfl, l0, g0⟩ := hK
  exact ⟨ad, A0, c0, e, by have hq := hc 0 _ rfl; rwa [Nat.mul_one, Nat.add_zero] at hq, l0, g0⟩

/-! #### struct type 24 -/
structure SVert where
  f0 : Int
  f1 : ByteArray
  f2 : (List SPrp)
def zVert : SVert := ⟨(0 : Int), (⟨#[]⟩ : ByteArray), ([] : List SPrp)⟩
def kVert : Kd SVert := Kd.iso (Kd.pair (Kd.int .i64) (Kd.pair Kd.string (Kd.slice 117 kPrp))) (fun x : SVert => (x.f0, x.f1, x.f2))
theorem kVert_open {w : World} {x : SVert} {cs : List Value} (h : kVert.K w x cs) : ∃ A2 c2, cs = [.int .i64 x.f0, .string x.f1, .slice A2 x.f2.length c2] ∧ x.f2.length ≤ c2 ∧ kPrp.C w A2 x.f2.length x.f2 := by
  obtain ⟨_, _, rfl, rfl, ⟨_, _, rfl, rfl, ⟨A2, c2, rfl, l2, g2⟩⟩⟩ := h
  exact ⟨A2, c2, rfl, l2, g2⟩
theorem kVert_openM {w : World} {base : Nat} {ok : Nat → Prop} {x : SVert} {cs : List Value} (h : kVert.M w base ok x cs) : ∃ v2, cs = [.int .i64 x.f0, .string x.f1, v2] ∧ kPrp.R 117 w base ok v2 x.f2 := by
  obtain ⟨_, _, rfl, rfl, ⟨_, _, rfl, rfl, ⟨v2, rfl, g2⟩⟩⟩ := h
  exact ⟨v2, rfl, g2⟩
theorem kVert_mk (w : World) (x : SVert) {A2 : Option Addr} {c2 : Nat} (l2 : x.f2.length ≤ c2) (g2 : kPrp.C w A2 x.f2.length x.f2) : kVert.K w x [.int .i64 x.f0, .string x.f1, .slice A2 x.f2.length c2] := ⟨[.int .i64 x.f0], [.string x.f1, .slice A2 x.f2.length c2], rfl, rfl, ⟨[.string x.f1], [.slice A2 x.f2.length c2], rfl, rfl, ⟨A2, c2, rfl, l2, g2⟩⟩⟩
theorem kVert_mkM (w : World) (base : Nat) (ok : Nat → Prop) (x : SVert) {v2 : Value} (g2 : kPrp.R 117 w base ok v2 x.f2) : kVert.M w base ok x [.int .i64 x.f0, .string x.f1, v2] := ⟨[.int .i64 x.f0], [.string x.f1, v2], rfl, rfl, ⟨[.string x.f1], [v2], rfl, rfl, ⟨v2, rfl, g2⟩⟩⟩
def rd_Vert (xs : List SVert) (i : Int) : SVert := xs.getD i.toNat zVert
theorem at_Vert {w : World} {A : Option Addr} {n : Nat} {xs : List SVert} (h : Kd.C kVert w A n xs) (i : Int) (h0 : 0 ≤ i) (h1 : i < n) : ∃ ad A2 c2, A = some ad ∧ w.cell? (ad.add (i.toNat * 3)) = some (.int .i64 (rd_Vert xs i).f0) ∧ w.cell? ⟨(ad.add (i.toNat * 3)).block, (ad.add (i.toNat * 3)).off + 1, none⟩ = some (.string (rd_Vert xs i).f1) ∧ w.cell? ⟨(ad.add (i.toNat * 3)).block, (ad.add (i.toNat * 3)).off + 2, none⟩ = some (.slice A2 (rd_Vert xs i).f2.length c2) ∧ (rd_Vert xs i).f2.length ≤ c2 ∧ kPrp.C w A2 (rd_Vert xs i).f2.length (rd_Vert xs i).f2 := by
  obtain ⟨ad, c, e, _, hK, hc0⟩ := Kd.C_get h zVert i h0 h1
  have hc : ∀ j u, c[j]? = some u → w.cell? (ad.add (i.toNat * 3 + j)) = some u := hc0
  obtain ⟨A2, c2, rfl, l2, g2⟩ := kVert_open hK
  exact ⟨ad, A2, c2, e, hc 0 _ rfl, by rw [← add_field _ _ 1 (by omega)]; exact hc 1 _ rfl, by rw [← add_field _ _ 2 (by omega)]; exact hc 2 _ rfl, l2, g2⟩

/-! #### struct type 35 -/
structure SEdg where
  f0 : Int
  f1 : ByteArray
  f2 : Int
  f3 : Int
  f4 : (List SPrp)
def zEdg : SEdg := ⟨(0 : Int), (⟨#[]⟩ : ByteArray), (0 : Int), (0 : Int), ([] : List SPrp)⟩
def kEdg : Kd SEdg := Kd.iso (Kd.pair (Kd.int .i64) (Kd.pair Kd.string (Kd.pair (Kd.int .i64) (Kd.pair (Kd.int .i64) (Kd.slice 117 kPrp))))) (fun x : SEdg => (x.f0, x.f1, x.f2, x.f3, x.f4))
theorem kEdg_open {w : World} {x : SEdg} {cs : List Value} (h : kEdg.K w x cs) : ∃ A4 c4, cs = [.int .i64 x.f0, .string x.f1, .int .i64 x.f2, .int .i64 x.f3, .slice A4 x.f4.length c4] ∧ x.f4.length ≤ c4 ∧ kPrp.C w A4 x.f4.length x.f4 := by
  obtain ⟨_, _, rfl, rfl, ⟨_, _, rfl, rfl, ⟨_, _, rfl, rfl, ⟨_, _, rfl, rfl, ⟨A4, c4, rfl, l4, g4⟩⟩⟩⟩⟩ := h
  exact ⟨A4, c4, rfl, l4, g4⟩
theorem kEdg_openM {w : World} {base : Nat} {ok : Nat → Prop} {x : SEdg} {cs : List Value} (h : kEdg.M w base ok x cs) : ∃ v4, cs = [.int .i64 x.f0, .string x.f1, .int .i64 x.f2, .int .i64 x.f3, v4] ∧ kPrp.R 117 w base ok v4 x.f4 := by
  obtain ⟨_, _, rfl, rfl, ⟨_, _, rfl, rfl, ⟨_, _, rfl, rfl, ⟨_, _, rfl, rfl, ⟨v4, rfl, g4⟩⟩⟩⟩⟩ := h
  exact ⟨v4, rfl, g4⟩
theorem kEdg_mk (w : World) (x : SEdg) {A4 : Option Addr} {c4 : Nat} (l4 : x.f4.length ≤ c4) (g4 : kPrp.C w A4 x.f4.length x.f4) : kEdg.K w x [.int .i64 x.f0, .string x.f1, .int .i64 x.f2, .int .i64 x.f3, .slice A4 x.f4.length c4] := ⟨[.int .i64 x.f0], [.string x.f1, .int .i64 x.f2, .int .i64 x.f3, .slice A4 x.f4.length c4], rfl, rfl, ⟨[.string x.f1], [.int .i64 x.f2, .int .i64 x.f3, .slice A4 x.f4.length c4], rfl, rfl, ⟨[.int .i64 x.f2], [.int .i64 x.f3, .slice A4 x.f4.length c4], rfl, rfl, ⟨[.int .i64 x.f3], [.slice A4 x.f4.length c4], rfl, rfl, ⟨A4, c4, rfl, l4, g4⟩⟩⟩⟩⟩
theorem kEdg_mkM (w : World) (base : Nat) (ok : Nat → Prop) (x : SEdg) {v4 : Value} (g4 : kPrp.R 117 w base ok v4 x.f4) : kEdg.M w base ok x [.int .i64 x.f0, .string x.f1, .int .i64 x.f2, .int .i64 x.f3, v4] := ⟨[.int .i64 x.f0], [.string x.f1, .int .i64 x.f2, .int .i64 x.f3, v4], rfl, rfl, ⟨[.string x.f1], [.int .i64 x.f2, .int .i64 x.f3, v4], rfl, rfl, ⟨[.int .i64 x.f2], [.int .i64 x.f3, v4], rfl, rfl, ⟨[.int .i64 x.f3], [v4], rfl, rfl, ⟨v4, rfl, g4⟩⟩⟩⟩⟩
def rd_Edg (xs : List SEdg) (i : Int) : SEdg := xs.getD i.toNat zEdg
theorem at_Edg {w : World} {A : Option Addr} {n : Nat} {xs : List SEdg} (h : Kd.C kEdg w A n xs) (i : Int) (h0 : 0 ≤ i) (h1 : i < n) : ∃ ad A4 c4, A = some ad ∧ w.cell? (ad.add (i.toNat * 5)) = some (.int .i64 (rd_Edg xs i).f0) ∧ w.cell? ⟨(ad.add (i.toNat * 5)).block, (ad.add (i.toNat * 5)).off + 1, none⟩ = some (.string (rd_Edg xs i).f1) ∧ w.cell? ⟨(ad.add (i.toNat * 5)).block, (ad.add (i.toNat * 5)).off + 2, none⟩ = some (.int .i64 (rd_Edg xs i).f2) ∧ w.cell? ⟨(ad.add (i.toNat * 5)).block, (ad.add (i.toNat * 5)).off + 3, none⟩ = some (.int .i64 (rd_Edg xs i).f3) ∧ w.cell? ⟨(ad.add (i.toNat * 5)).block, (ad.add (i.toNat * 5)).off + 4, none⟩ = some (.slice A4 (rd_Edg xs i).f4.length c4) ∧ (rd_Edg xs i).f4.length ≤ c4 ∧ kPrp.C w A4 (rd_Edg xs i).f4.length (rd_Edg xs i).f4 := by
  obtain ⟨ad, c, e, _, hK, hc0⟩ := Kd.C_get h zEdg i h0 h1
  have hc : ∀ j u, c[j]? = some u → w.cell? (ad.add (i.toNat * 5 + j)) = some u := hc0
  obtain ⟨A4, c4, rfl, l4, g4⟩ := kEdg_open hK
  exact ⟨ad, A4, c4, e, hc 0 _ rfl, by rw [← add_field _ _ 1 (by omega)]; exact hc 1 _ rfl, by rw [← add_field _ _ 2 (by omega)]; exact hc 2 _ rfl, by rw [← add_field _ _ 3 (by omega)]; exact hc 3 _ rfl, by rw [← add_field _ _ 4 (by omega)]; exact hc 4 _ rfl, l4, g4⟩

/-! #### struct type 39 -/
structure SEntry where
  f0 : ByteArray
  f1 : ByteArray
def zEntry : SEntry := ⟨(⟨#[]⟩ : ByteArray), (⟨#[]⟩ : ByteArray)⟩
def kEntry : Kd SEntry := Kd.iso (Kd.pair Kd.string Kd.string) (fun x : SEntry => (x.f0, x.f1))
theorem kEntry_open {w : World} {x : SEntry} {cs : List Value} (h : kEntry.K w x cs) : cs = [.string x.f0, .string x.f1] := by
  obtain ⟨_, _, rfl, rfl, rfl⟩ := h
  exact rfl
theorem kEntry_openM {w : World} {base : Nat} {ok : Nat → Prop} {x : SEntry} {cs : List Value} (h : kEntry.M w base ok x cs) : cs = [.string x.f0, .string x.f1] := by
  obtain ⟨_, _, rfl, rfl, rfl⟩ := h
  exact rfl
theorem kEntry_mk (w : World) (x : SEntry)  : kEntry.K w x [.string x.f0, .string x.f1] := ⟨[.string x.f0], [.string x.f1], rfl, rfl, rfl⟩
theorem kEntry_mkM (w : World) (base : Nat) (ok : Nat → Prop) (x : SEntry)  : kEntry.M w base ok x [.string x.f0, .string x.f1] := ⟨[.string x.f0], [.string x.f1], rfl, rfl, rfl⟩
def rd_Entry (xs : List SEntry) (i : Int) : SEntry := xs.getD i.toNat zEntry
theorem at_Entry {w : World} {A : Option Addr} {n : Nat} {xs : List SEntry} (h : Kd.C kEntry w A n xs) (i : Int) (h0 : 0 ≤ i) (h1 : i < n) : ∃ ad , A = some ad ∧ w.cell? (ad.add (i.toNat * 2)) = some (.string (rd_Entry xs i).f0) ∧ w.cell? ⟨(ad.add (i.toNat * 2)).block, (ad.add (i.toNat * 2)).off + 1, none⟩ = some (.string (rd_Entry xs i).f1) := by
  obtain ⟨ad, c, e, _, hK, hc0⟩ := Kd.C_get h zEntry i h0 h1
  have hc : ∀ j u, c[j]? = some u → w.cell? (ad.add (i.toNat * 2 + j)) = some u := hc0
  obtain rfl := kEntry_open hK
  exact ⟨ad, e, hc 0 _ rfl, by rw [← add_field _ _ 1 (by omega)]; exact hc 1 _ rfl⟩

/-! #### struct type 55 -/
structure SKey where
  f0 : Int
  f1 : Int
  f2 : Int
  f3 : ByteArray
def zKey : SKey := ⟨(0 : Int), (0 : Int), (0 : Int), (⟨#[]⟩ : ByteArray)⟩
def kKey : Kd SKey := Kd.iso (Kd.pair (Kd.int .i64) (Kd.pair (Kd.int .i64) (Kd.pair (Kd.int .i64) Kd.string))) (fun x : SKey => (x.f0, x.f1, x.f2, x.f3))
theorem kKey_open {w : World} {x : SKey} {cs : List Value} (h : kKey.K w x cs) : cs = [.int .i64 x.f0, .int .i64 x.f1, .int .i64 x.f2, .string x.f3] := by
  obtain ⟨_, _, rfl, rfl, ⟨_, _, rfl, rfl, ⟨_, _, rfl, rfl, rfl⟩⟩⟩ := h
  exact rfl
theorem kKey_openM {w : World} {base : Nat} {ok : Nat → Prop} {x : SKey} {cs : List Value} (h : kKey.M w base ok x cs) : cs = [.int .i64 x.f0, .int .i64 x.f1, .int .i64 x.f2, .string x.f3] := by
  obtain ⟨_, _, rfl, rfl, ⟨_, _, rfl, rfl, ⟨_, _, rfl, rfl, rfl⟩⟩⟩ := h
  exact rfl
theorem kKey_mk (w : World) (x : SKey)  : kKey.K w x [.int .i64 x.f0, .int .i64 x.f1, .int .i64 x.f2, .string x.f3] := ⟨[.int .i64 x.f0], [.int .i64 x.f1, .int .i64 x.f2, .string x.f3], rfl, rfl, ⟨[.int .i64 x.f1], [.int .i64 x.f2, .string x.f3], rfl, rfl, ⟨[.int .i64 x.f2], [.string x.f3], rfl, rfl, rfl⟩⟩⟩
theorem kKey_mkM (w : World) (base : Nat) (ok : Nat → Prop) (x : SKey)  : kKey.M w base ok x [.int .i64 x.f0, .int .i64 x.f1, .int .i64 x.f2, .string x.f3] := ⟨[.int .i64 x.f0], [.int .i64 x.f1, .int .i64 x.f2, .string x.f3], rfl, rfl, ⟨[.int .i64 x.f1], [.int .i64 x.f2, .string x.f3], rfl, rfl, ⟨[.int .i64 x.f2], [.string x.f3], rfl, rfl, rfl⟩⟩⟩
def rd_Key (xs : List SKey) (i : Int) : SKey := xs.getD i.toNat zKey
theorem at_Key {w : World} {A : Option Addr} {n : Nat} {xs : List SKey} (h : Kd.C kKey w A n xs) (i : Int) (h0 : 0 ≤ i) (h1 : i < n) : ∃ ad , A = some ad ∧ w.cell? (ad.add (i.toNat * 4)) = some (.int .i64 (rd_Key xs i).f0) ∧ w.cell? ⟨(ad.add (i.toNat * 4)).block, (ad.add (i.toNat * 4)).off + 1, none⟩ = some (.int .i64 (rd_Key xs i).f1) ∧ w.cell? ⟨(ad.add (i.toNat * 4)).block, (ad.add (i.toNat * 4)).off + 2, none⟩ = some (.int .i64 (rd_Key xs i).f2) ∧ w.cell? ⟨(ad.add (i.toNat * 4)).block, (ad.add (i.toNat * 4)).off + 3, none⟩ = some (.string (rd_Key xs i).f3) := by
  obtain ⟨ad, c, e, _, hK, hc0⟩ := Kd.C_get h zKey i h0 h1
  have hc : ∀ j u, c[j]? = some u → w.cell? (ad.add (i.toNat * 4 + j)) = some u := hc0
  obtain rfl := kKey_open hK
  exact ⟨ad, e, hc 0 _ rfl, by rw [← add_field _ _ 1 (by omega)]; exact hc 1 _ rfl, by rw [← add_field _ _ 2 (by omega)]; exact hc 2 _ rfl, by rw [← add_field _ _ 3 (by omega)]; exact hc 3 _ rfl⟩

def rd_slVert (xs : List (List SVert)) (i : Int) : (List SVert) := xs.getD i.toNat ([] : List SVert)
theorem at_slVert {w : World} {A : Option Addr} {n : Nat} {xs : List (List SVert)} (h : Kd.C (Kd.slice 24 kVert) w A n xs) (i : Int) (h0 : 0 ≤ i) (h1 : i < n) : ∃ ad A0 c0, A = some ad ∧ w.cell? (ad.add i.toNat) = some (.slice A0 (rd_slVert xs i).length c0) ∧ (rd_slVert xs i).length ≤ c0 ∧ kVert.C w A0 (rd_slVert xs i).length (rd_slVert xs i) := by
  obtain ⟨ad, c, e, _, hK, hc0⟩ := Kd.C_get h ([] : List SVert) i h0 h1
  have hc : ∀ j u, c[j]? = some u → w.cell? (ad.add (i.toNat * 1 + j)) = some u := hc0
  obtain ⟨A0, c0, rfl, l0, g0⟩ := hK
  exact ⟨ad, A0, c0, e, by have hq := hc 0 _ rfl; rwa [Nat.mul_one, Nat.add_zero] at hq, l0, g0⟩

def rd_slEdg (xs : List (List SEdg)) (i : Int) : (List SEdg) := xs.getD i.toNat ([] : List SEdg)
theorem at_slEdg {w : World} {A : Option Addr} {n : Nat} {xs : List (List SEdg)} (h : Kd.C (Kd.slice 35 kEdg) w A n xs) (i : Int) (h0 : 0 ≤ i) (h1 : i < n) : ∃ ad A0 c0, A = some ad ∧ w.cell? (ad.add i.toNat) = some (.slice A0 (rd_slEdg xs i).length c0) ∧ (rd_slEdg xs i).length ≤ c0 ∧ kEdg.C w A0 (rd_slEdg xs i).length (rd_slEdg xs i) := by
  obtain ⟨ad, c, e, _, hK, hc0⟩ := Kd.C_get h ([] : List SEdg) i h0 h1
  have hc : ∀ j u, c[j]? = some u → w.cell? (ad.add (i.toNat * 1 + j)) = some u := hc0
  obtain ⟨A0, c0, rfl, l0, g0⟩ := hK
  exact ⟨ad, A0, c0, e, by have hq := hc 0 _ rfl; rwa [Nat.mul_one, Nat.add_zero] at hq, l0, g0⟩

def rd_slEntry (xs : List (List SEntry)) (i : Int) : (List SEntry) := xs.getD i.toNat ([] : List SEntry)
theorem at_slEntry {w : World} {A : Option Addr} {n : Nat} {xs : List (List SEntry)} (h : Kd.C (Kd.slice 39 kEntry) w A n xs) (i : Int) (h0 : 0 ≤ i) (h1 : i < n) : ∃ ad A0 c0, A = some ad ∧ w.cell? (ad.add i.toNat) = some (.slice A0 (rd_slEntry xs i).length c0) ∧ (rd_slEntry xs i).length ≤ c0 ∧ kEntry.C w A0 (rd_slEntry xs i).length (rd_slEntry xs i) := by
  obtain ⟨ad, c, e, _, hK, hc0⟩ := Kd.C_get h ([] : List SEntry) i h0 h1
  have hc : ∀ j u, c[j]? = some u → w.cell? (ad.add (i.toNat * 1 + j)) = some u := hc0
  obtain ⟨A0, c0, rfl, l0, g0⟩ := hK
  exact ⟨ad, A0, c0, e, by have hq := hc 0 _ rfl; rwa [Nat.mul_one, Nat.add_zero] at hq, l0, g0⟩

def rd_slKey (xs : List (List SKey)) (i : Int) : (List SKey) := xs.getD i.toNat ([] : List SKey)
theorem at_slKey {w : World} {A : Option Addr} {n : Nat} {xs : List (List SKey)} (h : Kd.C (Kd.slice 55 kKey) w A n xs) (i : Int) (h0 : 0 ≤ i) (h1 : i < n) : ∃ ad A0 c0, A = some ad ∧ w.cell? (ad.add i.toNat) = some (.slice A0 (rd_slKey xs i).length c0) ∧ (rd_slKey xs i).length ≤ c0 ∧ kKey.C w A0 (rd_slKey xs i).length (rd_slKey xs i) := by
  obtain ⟨ad, c, e, _, hK, hc0⟩ := Kd.C_get h ([] : List SKey) i h0 h1
  have hc : ∀ j u, c[j]? = some u → w.cell? (ad.add (i.toNat * 1 + j)) = some u := hc0
  obtain ⟨A0, c0, rfl, l0, g0⟩ := hK
  exact ⟨ad, A0, c0, e, by have hq := hc 0 _ rfl; rwa [Nat.mul_one, Nat.add_zero] at hq, l0, g0⟩

def rd_slint (xs : List (List Int)) (i : Int) : (List Int) := xs.getD i.toNat ([] : List Int)
theorem at_slint {w : World} {A : Option Addr} {n : Nat} {xs : List (List Int)} (h : Kd.C (Kd.slice 3 (Kd.int .i64)) w A n xs) (i : Int) (h0 : 0 ≤ i) (h1 : i < n) : ∃ ad A0 c0, A = some ad ∧ w.cell? (ad.add i.toNat) = some (.slice A0 (rd_slint xs i).length c0) ∧ (rd_slint xs i).length ≤ c0 ∧ (Kd.int .i64).C w A0 (rd_slint xs i).length (rd_slint xs i) := by
  obtain ⟨ad, c, e, _, hK, hc0⟩ := Kd.C_get h ([] : List Int) i h0 h1
  have hc : ∀ j u, c[j]? = some u → w.cell? (ad.add (i.toNat * 1 + j)) = some u := hc0
  obtain ⟨A0, c0, rfl, l0, g0⟩ := hK
  exact ⟨ad, A0, c0, e, by have hq := hc 0 _ rfl; rwa [Nat.mul_one, Nat.add_zero] at hq, l0, g0⟩

def rd_slstring (xs : List (List ByteArray)) (i : Int) : (List ByteArray) := xs.getD i.toNat ([] : List ByteArray)
theorem at_slstring {w : World} {A : Option Addr} {n : Nat} {xs : List (List ByteArray)} (h : Kd.C (Kd.slice 9 Kd.string) w A n xs) (i : Int) (h0 : 0 ≤ i) (h1 : i < n) : ∃ ad A0 c0, A = some ad ∧ w.cell? (ad.add i.toNat) = some (.slice A0 (rd_slstring xs i).length c0) ∧ (rd_slstring xs i).length ≤ c0 ∧ Kd.string.C w A0 (rd_slstring xs i).length (rd_slstring xs i) := by
  obtain ⟨ad, c, e, _, hK, hc0⟩ := Kd.C_get h ([] : List ByteArray) i h0 h1
  have hc : ∀ j u, c[j]? = some u → w.cell? (ad.add (i.toNat * 1 + j)) = some u := hc0
  obtain ⟨A0, c0, rfl, l0, g0⟩ := hK
  exact ⟨ad, A0, c0, e, by have hq := hc 0 _ rfl; rwa [Nat.mul_one, Nat.add_zero] at hq, l0, g0⟩

end Go.Proofs.Ytonbnlfijmapfaa
