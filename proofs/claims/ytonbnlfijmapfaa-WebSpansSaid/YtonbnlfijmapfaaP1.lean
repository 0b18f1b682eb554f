/- Plain: texts and what is read of them; unlike things have unlike texts. No condition. -/
import Derived.Test.YtonbnlfijmapfaaL13
import Derived.Test.YtonbnlfijmapfaaE0
namespace Go.Proofs.Ytonbnlfijmapfaa
open Go.RowKit Go.Shelf Go.Proofs.YtonbnlfijmapfaaW.PrintWords
set_option linter.unusedVariables false
set_option linter.unusedSimpArgs false

theorem bytesOf_inj {a b : ByteArray} (h : bytesOf a = bytesOf b) : a = b := by
  cases a with | mk x => cases b with | mk y =>
  simp only [bytesOf] at h
  have h2 : x.toList = y.toList := by
    have := congrArg (List.map fun n : Int => UInt8.ofNat n.toNat) h
    simpa [List.map_map, Function.comp_def] using this
  rw [Array.toList_inj.1 h2]
theorem bytesOf_append (a b : ByteArray) : bytesOf (a ++ b) = bytesOf a ++ bytesOf b := by simp [bytesOf]
def byteList (l : List Int) : Prop := ∀ x ∈ l, 0 ≤ x ∧ x < 256
theorem bytesOf_strOfNums {l : List Int} (h : byteList l) : bytesOf (strOfNums l) = l := by
  simp only [bytesOf, strOfNums, List.map_map]
  conv => rhs; rw [← List.map_id l]
  refine List.map_congr_left fun x hx => ?_
  obtain ⟨h0, h1⟩ := h x hx
  simp only [Function.comp, id]
  have e : (UInt8.ofNat x.toNat).toNat = x.toNat := by simp; omega
  rw [e]; omega
theorem byteList_bytesOf (s : ByteArray) : byteList (bytesOf s) := by
  intro x hx
  simp only [bytesOf, List.mem_map] at hx
  obtain ⟨b, _, rfl⟩ := hx
  have := b.toNat_lt
  omega
theorem byteList_append {a b : List Int} (ha : byteList a) (hb : byteList b) : byteList (a ++ b) := by
  intro x hx
  rcases List.mem_append.1 hx with h | h
  · exact ha x h
  · exact hb x h
theorem byteList_cons {a : Int} {b : List Int} (h0 : 0 ≤ a) (h1 : a < 256) (hb : byteList b) : byteList (a :: b) := by
  intro x hx
  rcases List.mem_cons.1 hx with rfl | h
  · exact ⟨h0, h1⟩
  · exact hb x h
theorem byteList_esc : ∀ {l : List Int}, byteList l → byteList (esc l)
  | [], _ => by simp [esc, byteList]
  | c :: t, h => by
    have h1 := byteList_esc (l := t) (fun x hx => h x (List.mem_cons_of_mem _ hx))
    have h2 := h c List.mem_cons_self
    rw [esc]
    split
    · exact byteList_cons (by omega) (by omega) (byteList_cons (by omega) (by omega) h1)
    · exact byteList_cons h2.1 h2.2 h1
theorem byteList_u8z (u : Int) : byteList ((List.range 8).map (u8z u)) := by
  intro x hx
  simp only [List.mem_map] at hx
  obtain ⟨j, _, rfl⟩ := hx
  unfold u8z
  omega
theorem byteList_val (k n : Int) (s : ByteArray) : byteList (valBytes k n s) := by
  unfold valBytes
  split
  · exact byteList_cons (by omega) (by omega) (byteList_u8z _)
  · exact byteList_cons (by omega) (by omega) (byteList_append (byteList_esc (byteList_bytesOf s)) (by intro x hx; simp at hx; omega))
theorem byteList_prop (p : SPrp) : byteList (propBytes p) :=
  byteList_cons (by omega) (by omega) (byteList_append (byteList_bytesOf _) (byteList_val _ _ _))
theorem byteList_five (n : Int) : byteList (fiveBytes n) := by intro x hx; simp [fiveBytes] at hx; omega

/-- What stands behind a text's end is told apart. -/
theorem esc_end : ∀ {a b : List Int} {x y : List Int}, esc a ++ 0 :: 0 :: x = esc b ++ 0 :: 0 :: y → a = b ∧ x = y
  | [], [], x, y, h => by simpa [esc] using h
  | [], c :: t, x, y, h => by
    simp only [esc, List.nil_append] at h
    split at h <;> simp at h
    · omega
  | c :: t, [], x, y, h => by
    simp only [esc, List.nil_append] at h
    split at h <;> simp at h
    · omega
  | c :: t, d :: r, x, y, h => by
    simp only [esc] at h
    split at h <;> split at h
    · simp only [List.cons_append, List.cons.injEq, true_and] at h
      obtain ⟨rfl, rfl⟩ := esc_end h
      exact ⟨by simp_all, rfl⟩
    · simp only [List.cons_append, List.cons.injEq] at h; omega
    · simp only [List.cons_append, List.cons.injEq] at h; omega
    · simp only [List.cons_append, List.cons.injEq] at h
      obtain ⟨rfl, h⟩ := h
      obtain ⟨rfl, rfl⟩ := esc_end h
      exact ⟨rfl, rfl⟩

theorem u8z_inj {u v : Int} (h0 : 0 ≤ u) (h1 : u < 18446744073709551616) (g0 : 0 ≤ v) (g1 : v < 18446744073709551616) (h : (List.range 8).map (u8z u) = (List.range 8).map (u8z v)) : u = v := by
  have e : ∀ j, j < 8 → u8z u j = u8z v j := by
    intro j hj
    have := congrArg (fun l => l[j]?) h
    simpa [hj] using this
  have e0 := e 0 (by omega); have e1 := e 1 (by omega); have e2 := e 2 (by omega); have e3 := e 3 (by omega)
  have e4 := e 4 (by omega); have e5 := e 5 (by omega); have e6 := e 6 (by omega); have e7 := e 7 (by omega)
  clear e h
  simp only [u8z, Nat.mul_zero, Nat.sub_zero, Nat.reduceMul, Nat.reduceSub, Int.reducePow] at e0 e1 e2 e3 e4 e5 e6 e7
  have a1 : u / 72057594037927936 = v / 72057594037927936 := by omega
  have a2 : u / 281474976710656 = v / 281474976710656 := by omega
  have a3 : u / 1099511627776 = v / 1099511627776 := by omega
  have a4 : u / 4294967296 = v / 4294967296 := by omega
  have a5 : u / 16777216 = v / 16777216 := by omega
  have a6 : u / 65536 = v / 65536 := by omega
  have a7 : u / 256 = v / 256 := by omega
  omega
theorem empty_of {s : ByteArray} (h : s.toList.isEmpty = true) : s = ⟨#[]⟩ := by
  have e : (s.toList == (⟨#[]⟩ : ByteArray).toList) = true := by
    rw [List.isEmpty_iff.1 h]; kernel_rfl
  rw [toList_eq] at e
  exact of_decide_eq_true e
theorem val_end {k n k' n' : Int} {s s' : ByteArray} (hk : valOk k n s = true) (hk' : valOk k' n' s' = true) (h0 : -9223372036854775808 ≤ n) (h1 : n ≤ 9223372036854775807) (g0 : -9223372036854775808 ≤ n') (g1 : n' ≤ 9223372036854775807)
    {x y : List Int} (h : valBytes k n s ++ x = valBytes k' n' s' ++ y) : (k = k' ∧ n = n' ∧ s = s') ∧ x = y := by
  have one : ∀ {k n : Int} {s : ByteArray}, valOk k n s = true → (k = 1 ∧ s = ⟨#[]⟩) ∨ (k = 2 ∧ n = 0) := by
    intro k n s h
    rcases thingV_cases k n s with h2 | h2 | h2
    · rw [h] at h2; cases h2.1
    · obtain ⟨_, rfl, h3, _⟩ := h2
      refine .inl ⟨rfl, ?_⟩
      exact empty_of h3
    · exact .inr ⟨h2.2.1, h2.2.2.1⟩
  rcases one hk with ⟨rfl, rfl⟩ | ⟨rfl, rfl⟩ <;> rcases one hk' with ⟨rfl, rfl⟩ | ⟨rfl, rfl⟩
  · simp only [valBytes, if_true, intBytes, List.cons_append, List.cons.injEq, true_and] at h
    have hl := List.append_inj h (by simp)
    have := u8z_inj (by omega) (by omega) (by omega) (by omega) hl.1
    exact ⟨⟨rfl, by omega, rfl⟩, hl.2⟩
  · simp [valBytes, intBytes] at h
  · simp [valBytes, intBytes] at h
  · simp only [valBytes, show ¬ (2 : Int) = 1 by omega, if_false, List.cons_append, List.cons.injEq, true_and, List.append_assoc, List.nil_append] at h
    obtain ⟨h1, h2⟩ := esc_end h
    exact ⟨⟨rfl, rfl, bytesOf_inj h1⟩, h2⟩

theorem prop_end {p q : SPrp} (hp : p.f1.ok = true) (hq : q.f1.ok = true) (rp : -9223372036854775808 ≤ p.f1.f1 ∧ p.f1.f1 ≤ 9223372036854775807) (rq : -9223372036854775808 ≤ q.f1.f1 ∧ q.f1.f1 ≤ 9223372036854775807) (sp : p.f0.size < 256) (sq : q.f0.size < 256)
    {x y : List Int} (h : propBytes p ++ x = propBytes q ++ y) : p = q ∧ x = y := by
  simp only [propBytes, List.cons_append, List.cons.injEq, List.append_assoc] at h
  obtain ⟨h1, h2⟩ := h
  have hs : p.f0.size = q.f0.size := by omega
  obtain ⟨h3, h4⟩ := List.append_inj h2 (by rw [bytesOf_length, bytesOf_length, hs])
  obtain ⟨⟨e1, e2, e3⟩, h5⟩ := val_end hp hq rp.1 rp.2 rq.1 rq.2 h4
  refine ⟨?_, h5⟩
  cases p with | mk k v => cases v with | mk a b c => cases q with | mk k' v' => cases v' with | mk a' b' c' =>
  simp only at e1 e2 e3 h3
  rw [e1, e2, e3, bytesOf_inj h3]
def shortKeys (ps : List SPrp) : Prop := ∀ p ∈ ps, p.f0.size < 256
theorem flat_inj : ∀ {l m : List SPrp}, l.length = m.length → (∀ p ∈ l, p.f1.ok = true) → (∀ p ∈ m, p.f1.ok = true) → ranged l → ranged m → shortKeys l → shortKeys m → l.flatMap propBytes = m.flatMap propBytes → l = m
  | [], [], _, _, _, _, _, _, _, _ => rfl
  | p :: l, q :: m, hl, h1, h2, r1, r2, s1, s2, h => by
    simp only [List.flatMap_cons] at h
    obtain ⟨rfl, h'⟩ := prop_end (h1 p List.mem_cons_self) (h2 q List.mem_cons_self) (r1 p List.mem_cons_self) (r2 q List.mem_cons_self) (s1 p List.mem_cons_self) (s2 q List.mem_cons_self) h
    rw [flat_inj (by simpa using hl) (fun p hp => h1 p (List.mem_cons_of_mem _ hp)) (fun p hp => h2 p (List.mem_cons_of_mem _ hp)) (fun p hp => r1 p (List.mem_cons_of_mem _ hp)) (fun p hp => r2 p (List.mem_cons_of_mem _ hp)) (fun p hp => s1 p (List.mem_cons_of_mem _ hp)) (fun p hp => s2 p (List.mem_cons_of_mem _ hp)) h']
theorem byteList_props {ps : List SPrp} (h : ps.length ≤ 16) : byteList (propsBytes ps) := by
  refine byteList_cons (by omega) (by omega) ?_
  intro x hx
  obtain ⟨p, _, hx⟩ := List.mem_flatMap.1 hx
  exact byteList_prop p x hx
theorem bytesOf_body {s : ByteArray} {ps : List SPrp} (h : ps.length ≤ 16) : bytesOf (bodyText s ps) = (s.size : Int) % 256 :: (bytesOf s ++ propsBytes ps) := by
  rw [bodyText, bytesOf_append, bytesOf_append, bytesOf_strOfNums (byteList_cons (by omega) (by omega) (by intro x hx; simp at hx)), bytesOf_strOfNums (byteList_props h)]
  rfl
/-- Unlike labels and properties have unlike texts. -/
theorem body_inj {s s' : ByteArray} {l m : List SPrp} (hs : s.size < 256) (hs' : s'.size < 256) (hl : propsRight l = true) (hm : propsRight m = true) (r1 : ranged l) (r2 : ranged m) (s1 : shortKeys l) (s2 : shortKeys m) (h : bodyText s l = bodyText s' m) : s = s' ∧ l = m := by
  obtain ⟨o1, l1⟩ := propsRight_ok hl
  obtain ⟨o2, l2⟩ := propsRight_ok hm
  have h2 := congrArg bytesOf h
  rw [bytesOf_body l1, bytesOf_body l2] at h2
  simp only [List.cons.injEq] at h2
  obtain ⟨h3, h4⟩ := h2
  obtain ⟨h5, h6⟩ := List.append_inj h4 (by rw [bytesOf_length, bytesOf_length]; omega)
  simp only [propsBytes, List.cons.injEq] at h6
  exact ⟨bytesOf_inj h5, flat_inj (by omega) (fun p hp => (o1 p hp).2) (fun p hp => (o2 p hp).2) r1 r2 s1 s2 h6.2⟩
theorem five_inj {a b : Int} (ha : idOk a = true) (hb : idOk b = true) (h : fiveBytes a = fiveBytes b) : a = b := by
  simp only [idOk, Bool.and_eq_true, decide_eq_true_eq] at ha hb
  simp only [fiveBytes, List.cons.injEq, and_true] at h
  obtain ⟨e0, e1, e2, e3, e4⟩ := h
  have a1 : a / 4294967296 = b / 4294967296 := by omega
  have a2 : a / 16777216 = b / 16777216 := by omega
  have a3 : a / 65536 = b / 65536 := by omega
  have a4 : a / 256 = b / 256 := by omega
  omega
theorem five_text_inj {a b : Int} (ha : idOk a = true) (hb : idOk b = true) (h : strOfNums (fiveBytes a) = strOfNums (fiveBytes b)) : a = b := by
  have := congrArg bytesOf h
  rw [bytesOf_strOfNums (byteList_five a), bytesOf_strOfNums (byteList_five b)] at this
  exact five_inj ha hb this
theorem append_five_inj {x y : ByteArray} {a b : Int} (ha : idOk a = true) (hb : idOk b = true) (h : x ++ strOfNums (fiveBytes a) = y ++ strOfNums (fiveBytes b)) : a = b := by
  have := congrArg bytesOf h
  rw [bytesOf_append, bytesOf_append, bytesOf_strOfNums (byteList_five a), bytesOf_strOfNums (byteList_five b)] at this
  exact five_inj ha hb (List.append_inj_right' this rfl)
/-- An entry's id. -/
theorem entries_id {id : Int} {s : ByteArray} {l : List SPrp} {e : SEntry} (he : e ∈ entries id s l) : idOk id = true ∧ ∃ x, e.f1 = x ++ strOfNums (fiveBytes id) := by
  unfold entries at he
  split at he
  · rename_i hc
    have hi := (checkN_ok hc).1
    simp only [List.all_cons, List.all_nil, Bool.and_true] at hi
    refine ⟨hi, ?_⟩
    rcases List.mem_cons.1 he with rfl | he
    · exact ⟨⟨#[]⟩, by apply bytesOf_inj; rw [bytesOf_append]; rfl⟩
    · simp only [List.mem_map] at he
      obtain ⟨p, _, rfl⟩ := he
      exact ⟨_, rfl⟩
  · simp at he
theorem entries_apart {a b : Int} {s t : ByteArray} {l m : List SPrp} {e : SEntry} (h1 : e ∈ entries a s l) (h2 : e ∈ entries b t m) : a = b := by
  obtain ⟨i1, x, e1⟩ := entries_id h1
  obtain ⟨i2, y, e2⟩ := entries_id h2
  exact append_five_inj i1 i2 (e1.symm.trans e2)
theorem entries_length {id : Int} {s : ByteArray} {l : List SPrp} (h : checkN s l [id] = 0) : (entries id s l).length = l.length + 1 := by
  rw [entries, if_pos h]; simp
/-- Two edges from and to: alike just if the ends are one. -/
theorem edge_turn {a b : Int} (ha : idOk a = true) (hb : idOk b = true) (t : ByteArray) : (strOfNums (fiveBytes a) ++ strOfNums (fiveBytes b) ++ t = strOfNums (fiveBytes b) ++ strOfNums (fiveBytes a) ++ t) ↔ a = b := by
  refine ⟨fun h => ?_, fun h => by rw [h]⟩
  have := congrArg bytesOf h
  simp only [bytesOf_append, bytesOf_strOfNums (byteList_five a), bytesOf_strOfNums (byteList_five b), List.append_assoc] at this
  exact five_inj ha hb (List.append_inj_left this rfl)
end Go.Proofs.Ytonbnlfijmapfaa
