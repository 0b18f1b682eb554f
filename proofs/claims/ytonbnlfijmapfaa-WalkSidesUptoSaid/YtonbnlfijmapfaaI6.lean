/- Texts of this proof, joined: P1, L18, O1, O3, O4, O5. No condition. -/
import Derived.Test.YtonbnlfijmapfaaI5
import Derived.Test.YtonbnlfijmapfaaI1
import Derived.OpenShut
import Derived.Test.YtonbnlfijmapfaaRows
/- Plain: texts and what is read of them; unlike things have unlike texts. No condition. -/
namespace Go.Proofs.Ytonbnlfijmapfaa
open Go.RowKit Go.Shelf Go.Proofs.YtonbnlfijmapfaaW.PrintWords
set_option linter.unusedVariables false
set_option linter.unusedSimpArgs false

theorem bytesOf_inj {a b : ByteArray} (h : bytesOf a = bytesOf b) : a = b := by
  cases a with | mk x => cases b with | mk y =>
  simp only [bytesOf] at h
  have h2 : x.toList = y.toList := by
    have := congrArg (List.map fun n : Int => UInt8.ofNat n.toNat) h
    simpa [List.map_map, Function.comp_def] using this
  rw [Array.toList_inj.1 h2]
theorem bytesOf_append (a b : ByteArray) : bytesOf (a ++ b) = bytesOf a ++ bytesOf b := by simp [bytesOf]
def byteList (l : List Int) : Prop := ∀ x ∈ l, 0 ≤ x ∧ x < 256
theorem bytesOf_strOfNums {l : List Int} (h : byteList l) : bytesOf (strOfNums l) = l := by
  simp only [bytesOf, strOfNums, List.map_map]
  conv => rhs; rw [← List.map_id l]
  refine List.map_congr_left fun x hx => ?_
  obtain ⟨h0, h1⟩ := h x hx
  simp only [Function.comp, id]
  have e : (UInt8.ofNat x.toNat).toNat = x.toNat := by simp; omega
  rw [e]; omega
theorem byteList_bytesOf (s : ByteArray) : byteList (bytesOf s) := by
  intro x hx
  simp only [bytesOf, List.mem_map] at hx
  obtain ⟨b, _, rfl⟩ := hx
  have := b.toNat_lt
  omega
theorem byteList_append {a b : List Int} (ha : byteList a) (hb : byteList b) : byteList (a ++ b) := by
  intro x hx
  rcases List.mem_append.1 hx with h | h
  · exact ha x h
  · exact hb x h
theorem byteList_cons {a : Int} {b : List Int} (h0 : 0 ≤ a) (h1 : a < 256) (hb : byteList b) : byteList (a :: b) := by
  intro x hx
  rcases List.mem_cons.1 hx with rfl | h
  · exact ⟨h0, h1⟩
  · exact hb x h
theorem byteList_esc : ∀ {l : List Int}, byteList l → byteList (esc l)
  | [], _ => by simp [esc, byteList]
  | c :: t, h => by
    have h1 := byteList_esc (l := t) (fun x hx => h x (List.mem_cons_of_mem _ hx))
    have h2 := h c List.mem_cons_self
    rw [esc]
    split
    · exact byteList_cons (by omega) (by omega) (byteList_cons (by omega) (by omega) h1)
    · exact byteList_cons h2.1 h2.2 h1
theorem byteList_u8z (u : Int) : byteList ((List.range 8).map (u8z u)) := by
  intro x hx
  simp only [List.mem_map] at hx
  obtain ⟨j, _, rfl⟩ := hx
  unfold u8z
  omega
theorem byteList_val (k n : Int) (s : ByteArray) : byteList (valBytes k n s) := by
  unfold valBytes
  split
  · exact byteList_cons (by omega) (by omega) (byteList_u8z _)
  · exact byteList_cons (by omega) (by omega) (byteList_append (byteList_esc (byteList_bytesOf s)) (by intro x hx; simp at hx; omega))
theorem byteList_prop (p : SPrp) : byteList (propBytes p) :=
  byteList_cons (by omega) (by omega) (byteList_append (byteList_bytesOf _) (byteList_val _ _ _))
theorem byteList_five (n : Int) : byteList (fiveBytes n) := by intro x hx; simp [fiveBytes] at hx; omega

/-- What stands behind a text's end is told apart. -/
theorem esc_end : ∀ {a b : List Int} {x y : List Int}, esc a ++ 0 :: 0 :: x = esc b ++ 0 :: 0 :: y → a = b ∧ x = y
  | [], [], x, y, h => by simpa [esc] using h
  | [], c :: t, x, y, h => by
    simp only [esc, List.nil_append] at h
    split at h <;> simp at h
    · omega
  | c :: t, [], x, y, h => by
    simp only [esc, List.nil_append] at h
    split at h <;> simp at h
    · omega
  | c :: t, d :: r, x, y, h => by
    simp only [esc] at h
    split at h <;> split at h
    · simp only [List.cons_append, List.cons.injEq, true_and] at h
      obtain ⟨rfl, rfl⟩ := esc_end h
      exact ⟨by simp_all, rfl⟩
    · simp only [List.cons_append, List.cons.injEq] at h; omega
    · simp only [List.cons_append, List.cons.injEq] at h; omega
    · simp only [List.cons_append, List.cons.injEq] at h
      obtain ⟨rfl, h⟩ := h
      obtain ⟨rfl, rfl⟩ := esc_end h
      exact ⟨rfl, rfl⟩

theorem u8z_inj {u v : Int} (h0 : 0 ≤ u) (h1 : u < 18446744073709551616) (g0 : 0 ≤ v) (g1 : v < 18446744073709551616) (h : (List.range 8).map (u8z u) = (List.range 8).map (u8z v)) : u = v := by
  have e : ∀ j, j < 8 → u8z u j = u8z v j := by
    intro j hj
    have := congrArg (fun l => l[j]?) h
    simpa [hj] using this
  have e0 := e 0 (by omega); have e1 := e 1 (by omega); have e2 := e 2 (by omega); have e3 := e 3 (by omega)
  have e4 := e 4 (by omega); have e5 := e 5 (by omega); have e6 := e 6 (by omega); have e7 := e 7 (by omega)
  clear e h
  simp only [u8z, Nat.mul_zero, Nat.sub_zero, Nat.reduceMul, Nat.reduceSub, Int.reducePow] at e0 e1 e2 e3 e4 e5 e6 e7
  have a1 : u / 72057594037927936 = v / 72057594037927936 := by omega
  have a2 : u / 281474976710656 = v / 281474976710656 := by omega
  have a3 : u / 1099511627776 = v / 1099511627776 := by omega
  have a4 : u / 4294967296 = v / 4294967296 := by omega
  have a5 : u / 16777216 = v / 16777216 := by omega
  have a6 : u / 65536 = v / 65536 := by omega
  have a7 : u / 256 = v / 256 := by omega
  omega
theorem empty_of {s : ByteArray} (h : s.toList.isEmpty = true) : s = ⟨#[]⟩ := by
  have e : (s.toList == (⟨#[]⟩ : ByteArray).toList) = true := by
    rw [List.isEmpty_iff.1 h]; kernel_rfl
  rw [toList_eq] at e
  exact of_decide_eq_true e
theorem val_end {k n k' n' : Int} {s s' : ByteArray} (hk : valOk k n s = true) (hk' : valOk k' n' s' = true) (h0 : -9223372036854775808 ≤ n) (h1 : n ≤ 9223372036854775807) (g0 : -9223372036854775808 ≤ n') (g1 : n' ≤ 9223372036854775807)
    {x y : List Int} (h : valBytes k n s ++ x = valBytes k' n' s' ++ y) : (k = k' ∧ n = n' ∧ s = s') ∧ x = y := by
  have one : ∀ {k n : Int} {s : ByteArray}, valOk k n s = true → (k = 1 ∧ s = ⟨#[]⟩) ∨ (k = 2 ∧ n = 0) := by
    intro k n s h
    rcases thingV_cases k n s with h2 | h2 | h2
    · rw [h] at h2; cases h2.1
    · obtain ⟨_, rfl, h3, _⟩ := h2
      refine .inl ⟨rfl, ?_⟩
      exact empty_of h3
    · exact .inr ⟨h2.2.1, h2.2.2.1⟩
  rcases one hk with ⟨rfl, rfl⟩ | ⟨rfl, rfl⟩ <;> rcases one hk' with ⟨rfl, rfl⟩ | ⟨rfl, rfl⟩
  · simp only [valBytes, if_true, intBytes, List.cons_append, List.cons.injEq, true_and] at h
    have hl := List.append_inj h (by simp)
    have := u8z_inj (by omega) (by omega) (by omega) (by omega) hl.1
    exact ⟨⟨rfl, by omega, rfl⟩, hl.2⟩
  · simp [valBytes, intBytes] at h
  · simp [valBytes, intBytes] at h
  · simp only [valBytes, show ¬ (2 : Int) = 1 by omega, if_false, List.cons_append, List.cons.injEq, true_and, List.append_assoc, List.nil_append] at h
    obtain ⟨h1, h2⟩ := esc_end h
    exact ⟨⟨rfl, rfl, bytesOf_inj h1⟩, h2⟩

theorem prop_end {p q : SPrp} (hp : p.f1.ok = true) (hq : q.f1.ok = true) (rp : -9223372036854775808 ≤ p.f1.f1 ∧ p.f1.f1 ≤ 9223372036854775807) (rq : -9223372036854775808 ≤ q.f1.f1 ∧ q.f1.f1 ≤ 9223372036854775807) (sp : p.f0.size < 256) (sq : q.f0.size < 256)
    {x y : List Int} (h : propBytes p ++ x = propBytes q ++ y) : p = q ∧ x = y := by
  simp only [propBytes, List.cons_append, List.cons.injEq, List.append_assoc] at h
  obtain ⟨h1, h2⟩ := h
  have hs : p.f0.size = q.f0.size := by omega
  obtain ⟨h3, h4⟩ := List.append_inj h2 (by rw [bytesOf_length, bytesOf_length, hs])
  obtain ⟨⟨e1, e2, e3⟩, h5⟩ := val_end hp hq rp.1 rp.2 rq.1 rq.2 h4
  refine ⟨?_, h5⟩
  cases p with | mk k v => cases v with | mk a b c => cases q with | mk k' v' => cases v' with | mk a' b' c' =>
  simp only at e1 e2 e3 h3
  rw [e1, e2, e3, bytesOf_inj h3]
def shortKeys (ps : List SPrp) : Prop := ∀ p ∈ ps, p.f0.size < 256
theorem flat_inj : ∀ {l m : List SPrp}, l.length = m.length → (∀ p ∈ l, p.f1.ok = true) → (∀ p ∈ m, p.f1.ok = true) → ranged l → ranged m → shortKeys l → shortKeys m → l.flatMap propBytes = m.flatMap propBytes → l = m
  | [], [], _, _, _, _, _, _, _, _ => rfl
  | p :: l, q :: m, hl, h1, h2, r1, r2, s1, s2, h => by
    simp only [List.flatMap_cons] at h
    obtain ⟨rfl, h'⟩ := prop_end (h1 p List.mem_cons_self) (h2 q List.mem_cons_self) (r1 p List.mem_cons_self) (r2 q List.mem_cons_self) (s1 p List.mem_cons_self) (s2 q List.mem_cons_self) h
    rw [flat_inj (by simpa using hl) (fun p hp => h1 p (List.mem_cons_of_mem _ hp)) (fun p hp => h2 p (List.mem_cons_of_mem _ hp)) (fun p hp => r1 p (List.mem_cons_of_mem _ hp)) (fun p hp => r2 p (List.mem_cons_of_mem _ hp)) (fun p hp => s1 p (List.mem_cons_of_mem _ hp)) (fun p hp => s2 p (List.mem_cons_of_mem _ hp)) h']
theorem byteList_props {ps : List SPrp} (h : ps.length ≤ 16) : byteList (propsBytes ps) := by
  refine byteList_cons (by omega) (by omega) ?_
  intro x hx
  obtain ⟨p, _, hx⟩ := List.mem_flatMap.1 hx
  exact byteList_prop p x hx
theorem bytesOf_body {s : ByteArray} {ps : List SPrp} (h : ps.length ≤ 16) : bytesOf (bodyText s ps) = (s.size : Int) % 256 :: (bytesOf s ++ propsBytes ps) := by
  rw [bodyText, bytesOf_append, bytesOf_append, bytesOf_strOfNums (byteList_cons (by omega) (by omega) (by intro x hx; simp at hx)), bytesOf_strOfNums (byteList_props h)]
  rfl
/-- Unlike labels and properties have unlike texts. -/
theorem body_inj {s s' : ByteArray} {l m : List SPrp} (hs : s.size < 256) (hs' : s'.size < 256) (hl : propsRight l = true) (hm : propsRight m = true) (r1 : ranged l) (r2 : ranged m) (s1 : shortKeys l) (s2 : shortKeys m) (h : bodyText s l = bodyText s' m) : s = s' ∧ l = m := by
  obtain ⟨o1, l1⟩ := propsRight_ok hl
  obtain ⟨o2, l2⟩ := propsRight_ok hm
  have h2 := congrArg bytesOf h
  rw [bytesOf_body l1, bytesOf_body l2] at h2
  simp only [List.cons.injEq] at h2
  obtain ⟨h3, h4⟩ := h2
  obtain ⟨h5, h6⟩ := List.append_inj h4 (by rw [bytesOf_length, bytesOf_length]; omega)
  simp only [propsBytes, List.cons.injEq] at h6
  exact ⟨bytesOf_inj h5, flat_inj (by omega) (fun p hp => (o1 p hp).2) (fun p hp => (o2 p hp).2) r1 r2 s1 s2 h6.2⟩
theorem five_inj {a b : Int} (ha : idOk a = true) (hb : idOk b = true) (h : fiveBytes a = fiveBytes b) : a = b := by
  simp only [idOk, Bool.and_eq_true, decide_eq_true_eq] at ha hb
  simp only [fiveBytes, List.cons.injEq, and_true] at h
  obtain ⟨e0, e1, e2, e3, e4⟩ := h
  have a1 : a / 4294967296 = b / 4294967296 := by omega
  have a2 : a / 16777216 = b / 16777216 := by omega
  have a3 : a / 65536 = b / 65536 := by omega
  have a4 : a / 256 = b / 256 := by omega
  omega
theorem five_text_inj {a b : Int} (ha : idOk a = true) (hb : idOk b = true) (h : strOfNums (fiveBytes a) = strOfNums (fiveBytes b)) : a = b := by
  have := congrArg bytesOf h
  rw [bytesOf_strOfNums (byteList_five a), bytesOf_strOfNums (byteList_five b)] at this
  exact five_inj ha hb this
theorem append_five_inj {x y : ByteArray} {a b : Int} (ha : idOk a = true) (hb : idOk b = true) (h : x ++ strOfNums (fiveBytes a) = y ++ strOfNums (fiveBytes b)) : a = b := by
  have := congrArg bytesOf h
  rw [bytesOf_append, bytesOf_append, bytesOf_strOfNums (byteList_five a), bytesOf_strOfNums (byteList_five b)] at this
  exact five_inj ha hb (List.append_inj_right' this rfl)
/-- An entry's id. -/
theorem entries_id {id : Int} {s : ByteArray} {l : List SPrp} {e : SEntry} (he : e ∈ entries id s l) : idOk id = true ∧ ∃ x, e.f1 = x ++ strOfNums (fiveBytes id) := by
  unfold entries at he
  split at he
  · rename_i hc
    have hi := (checkN_ok hc).1
    simp only [List.all_cons, List.all_nil, Bool.and_true] at hi
    refine ⟨hi, ?_⟩
    rcases List.mem_cons.1 he with rfl | he
    · exact ⟨⟨#[]⟩, by apply bytesOf_inj; rw [bytesOf_append]; rfl⟩
    · simp only [List.mem_map] at he
      obtain ⟨p, _, rfl⟩ := he
      exact ⟨_, rfl⟩
  · simp at he
theorem entries_apart {a b : Int} {s t : ByteArray} {l m : List SPrp} {e : SEntry} (h1 : e ∈ entries a s l) (h2 : e ∈ entries b t m) : a = b := by
  obtain ⟨i1, x, e1⟩ := entries_id h1
  obtain ⟨i2, y, e2⟩ := entries_id h2
  exact append_five_inj i1 i2 (e1.symm.trans e2)
theorem entries_length {id : Int} {s : ByteArray} {l : List SPrp} (h : checkN s l [id] = 0) : (entries id s l).length = l.length + 1 := by
  rw [entries, if_pos h]; simp
/-- Two edges from and to: alike just if the ends are one. -/
theorem edge_turn {a b : Int} (ha : idOk a = true) (hb : idOk b = true) (t : ByteArray) : (strOfNums (fiveBytes a) ++ strOfNums (fiveBytes b) ++ t = strOfNums (fiveBytes b) ++ strOfNums (fiveBytes a) ++ t) ↔ a = b := by
  refine ⟨fun h => ?_, fun h => by rw [h]⟩
  have := congrArg bytesOf h
  simp only [bytesOf_append, bytesOf_strOfNums (byteList_five a), bytesOf_strOfNums (byteList_five b), List.append_assoc] at this
  exact five_inj ha hb (List.append_inj_left this rfl)
end Go.Proofs.Ytonbnlfijmapfaa
/- cobweblaw21.WebApart. -/
namespace Go.Proofs.Ytonbnlfijmapfaa
open Go.RowKit Go.Shelf Go.Proofs.YtonbnlfijmapfaaW.PrintWords
set_option linter.unusedVariables false
set_option linter.unusedSimpArgs false

/-- What is told of properties that came in. -/
structure PropsIn (w : World) (A : Option Addr) (c : Nat) (l : List SPrp) : Prop where
  row : kPrp.C w A l.length l
  rng : ranged l
  cap : l.length ≤ c
/-- The variables of WebApart that lie in memory. -/
def Bx (w0 : World) (v0 v1 v2 u0 u1 u2 t0 t1 : Value) (W : World) : Prop :=
  W.cell? ⟨w0.heap.size, 0, none⟩ = some v0 ∧ W.cell? ⟨w0.heap.size, 1, none⟩ = some v1 ∧ W.cell? ⟨w0.heap.size, 2, none⟩ = some v2 ∧ W.cell? ⟨w0.heap.size + 1, 0, none⟩ = some u0 ∧ W.cell? ⟨w0.heap.size + 1, 1, none⟩ = some u1 ∧ W.cell? ⟨w0.heap.size + 1, 2, none⟩ = some u2 ∧ W.cell? ⟨w0.heap.size + 2, 0, none⟩ = some t0 ∧ W.cell? ⟨w0.heap.size + 2, 1, none⟩ = some t1 ∧ Below w0.heap.size w0 W
theorem Bx.keep {w0 W W2 : World} {v0 v1 v2 u0 u1 u2 t0 t1 : Value} (hb : Below W.heap.size W W2) (h : Bx w0 v0 v1 v2 u0 u1 u2 t0 t1 W) : Bx w0 v0 v1 v2 u0 u1 u2 t0 t1 W2 := keepB8 hb h
theorem Bx.low {w0 W : World} {v0 v1 v2 u0 u1 u2 t0 t1 : Value} (h : Bx w0 v0 v1 v2 u0 u1 u2 t0 t1 W) : Below w0.heap.size w0 W := h.2.2.2.2.2.2.2.2
theorem Bx.new (w0 : World) (v0 v1 v2 u0 u1 u2 t0 t1 : Value) (a b c : Nat) : Bx w0 v0 v1 v2 u0 u1 u2 t0 t1 (((w0.alloc (.cells #[v0, v1, v2] a)).alloc (.cells #[u0, u1, u2] b)).alloc (.cells #[t0, t1] c)) := by
  have k1 := blk_alloc (blk_alloc (blk_new w0 #[v0, v1, v2] a) (.cells #[u0, u1, u2] b)) (.cells #[t0, t1] c)
  have k2 := blk_alloc (blk_new (w0.alloc (.cells #[v0, v1, v2] a)) #[u0, u1, u2] b) (.cells #[t0, t1] c)
  have k3 := blk_new ((w0.alloc (.cells #[v0, v1, v2] a)).alloc (.cells #[u0, u1, u2] b)) #[t0, t1] c
  have e2 : (w0.alloc (.cells #[v0, v1, v2] a)).heap.size = w0.heap.size + 1 := by simp
  have e3 : ((w0.alloc (.cells #[v0, v1, v2] a)).alloc (.cells #[u0, u1, u2] b)).heap.size = w0.heap.size + 2 := by simp
  rw [e2] at k2
  rw [e3] at k3
  exact ⟨blk_cell k1 0, blk_cell k1 1, blk_cell k1 2, blk_cell k2 0, blk_cell k2 1, blk_cell k2 2, blk_cell k3 0, blk_cell k3 1, keepB0 (below_al _ _) (keepB0 (below_al _ _) (below_al _ _))⟩

set_option maxRecDepth 100000 in
set_option maxHeartbeats 8000000 in
theorem law21_WebApart_no (i1 i2 x y : Int) (s1 s2 : ByteArray) (A1 A2 : Option Addr) (c1 c2 : Nat) (l1 l2 : List SPrp) (w : World) (h1 : PropsIn w A1 c1 l1) (h2 : PropsIn w A2 c2 l2) (hno : lawProps l1 = false ∨ lawProps l1 = true ∧ lawProps l2 = false ∨ lawProps l1 = true ∧ lawProps l2 = true ∧ (s1.size > 200 ∨ s1.size ≤ 200 ∧ s2.size > 200)) :
    Calls Try.prog 3 #[.agg #[.int .i64 i1, .string s1, .slice A1 l1.length c1], .agg #[.int .i64 i2, .string s2, .slice A2 l2.length c2], .agg #[.int .i64 x, .int .i64 y]] w fun e w' => e = .returned (.bool true) ∧ Below w.heap.size w w' := by
  have H1 := Lib.hid h1; clear h1
  have H2 := Lib.hid h2; clear h2
  have hfirst : True := trivial
  have hfirst2 : True := trivial
  have HN := Lib.hid (Bx.new w (.int .i64 i1) (.string s1) (.slice A1 l1.length c1) (.int .i64 i2) (.string s2) (.slice A2 l2.length c2) (.int .i64 x) (.int .i64 y) 24 24 25)
  rcases hno with hn | ⟨hn1, hn⟩ | ⟨hn1, hn2, hn | ⟨hn3, hn⟩⟩
  · go_enter Try.func3, Try.ntmps3
    go_wp2_with (first
      | (go_at_call 15; clear hfirst; refine (law21_awake_calls _).mono ?_; rintro e wa ⟨rfl, hba⟩; have HB := Lib.hid (HN.out.keep hba); clear hba HN; obtain ⟨x0, x1, x2, y0, y1, y2, z0, z1, -⟩ := HB.out)
      | (go_at_call 16; clear hfirst2; refine (law21_props_calls A1 c1 l1 _ (Kd.C_below H1.out.row HB.out.low)).mono ?_; rw [hn]; rintro e wp ⟨rfl, rfl⟩)
      | (go_at_call 15; refine (law21_awake_calls _).mono ?_; rintro e wb ⟨rfl, hbb⟩))
    go_ret
    exact ⟨rfl, keepB0 hbb HB.out.low⟩
  · go_enter Try.func3, Try.ntmps3
    go_wp2_with (first
      | (go_at_call 15; clear hfirst; refine (law21_awake_calls _).mono ?_; rintro e wa ⟨rfl, hba⟩; have HB := Lib.hid (HN.out.keep hba); clear hba HN; obtain ⟨x0, x1, x2, y0, y1, y2, z0, z1, -⟩ := HB.out)
      | (go_at_call 16; clear hfirst2; refine (law21_props_calls A1 c1 l1 _ (Kd.C_below H1.out.row HB.out.low)).mono ?_; rw [hn1]; rintro e wp ⟨rfl, rfl⟩)
      | (go_at_call 16; refine (law21_props_calls A2 c2 l2 _ (Kd.C_below H2.out.row HB.out.low)).mono ?_; rw [hn]; rintro e wp ⟨rfl, rfl⟩)
      | (go_at_call 15; refine (law21_awake_calls _).mono ?_; rintro e wb ⟨rfl, hbb⟩))
    go_ret
    exact ⟨rfl, keepB0 hbb HB.out.low⟩
  · have hn' : (200 : Int) < (s1.size : Int) := by omega
    go_enter Try.func3, Try.ntmps3
    go_wp2_with (first
      | (go_at_call 15; clear hfirst; refine (law21_awake_calls _).mono ?_; rintro e wa ⟨rfl, hba⟩; have HB := Lib.hid (HN.out.keep hba); clear hba HN; obtain ⟨x0, x1, x2, y0, y1, y2, z0, z1, -⟩ := HB.out)
      | (go_at_call 16; clear hfirst2; refine (law21_props_calls A1 c1 l1 _ (Kd.C_below H1.out.row HB.out.low)).mono ?_; rw [hn1]; rintro e wp ⟨rfl, rfl⟩)
      | (go_at_call 16; refine (law21_props_calls A2 c2 l2 _ (Kd.C_below H2.out.row HB.out.low)).mono ?_; rw [hn2]; rintro e wp ⟨rfl, rfl⟩)
      | (go_at_call 15; refine (law21_awake_calls _).mono ?_; rintro e wb ⟨rfl, hbb⟩))
    go_ret
    exact ⟨rfl, keepB0 hbb HB.out.low⟩
  · have hn' : (200 : Int) < (s2.size : Int) := by omega
    have hn4 : ¬ (200 : Int) < (s1.size : Int) := by omega
    go_enter Try.func3, Try.ntmps3
    go_wp2_with (first
      | (go_at_call 15; clear hfirst; refine (law21_awake_calls _).mono ?_; rintro e wa ⟨rfl, hba⟩; have HB := Lib.hid (HN.out.keep hba); clear hba HN; obtain ⟨x0, x1, x2, y0, y1, y2, z0, z1, -⟩ := HB.out)
      | (go_at_call 16; clear hfirst2; refine (law21_props_calls A1 c1 l1 _ (Kd.C_below H1.out.row HB.out.low)).mono ?_; rw [hn1]; rintro e wp ⟨rfl, rfl⟩)
      | (go_at_call 16; refine (law21_props_calls A2 c2 l2 _ (Kd.C_below H2.out.row HB.out.low)).mono ?_; rw [hn2]; rintro e wp ⟨rfl, rfl⟩)
      | (go_at_call 15; refine (law21_awake_calls _).mono ?_; rintro e wb ⟨rfl, hbb⟩))
    go_ret
    exact ⟨rfl, keepB0 hbb HB.out.low⟩
end Go.Proofs.Ytonbnlfijmapfaa
/- What came in, opened: arguments. No condition. -/
namespace Go.Proofs.Ytonbnlfijmapfaa
set_option linter.constructorNameAsVariable false
open Go.RowKit Go.ChangeShapes Go.WideShapes Go.Proofs.YtonbnlfijmapfaaW.PrintWords
set_option linter.unusedVariables false
set_option linter.unusedSimpArgs false

set_option maxRecDepth 100000
theorem okWide_ends {W : World} {r : Reach} {b : Nat} {v : Value} {n : Nat} {e t : TypeId} (ht : Try.prog.underlying t = some (.array n e)) (h : Value.okWide Try.prog W r b t v) : ∃ cs, v = .agg cs ∧ cs.size = Try.prog.cellsOf t := by
  simp only [Value.okWide, ht] at h
  obtain ⟨cs, h1, h2, _⟩ := h
  exact ⟨cs, h1, h2⟩
section
variable {H : Type} {enc : TypeId × Value → H} {W : World} {sp : Nat → Bool} {held : Bool} {r : Reach} {b : Nat} {v : Value} {d : DataW H} {p : List MemPlace}
theorem wf_range {n : Int} (h : (Lit.int .i64 n).wf = true) : -9223372036854775808 ≤ n ∧ n ≤ 9223372036854775807 := by
  simpa [Lit.wf, IntKind.min, IntKind.max, IntKind.signed, IntKind.bits] using h
theorem open_vert (hv : Value.okWide Try.prog W r b 24 v) (h : DataW.Trod enc Try.prog W 0 sp held 24 v d p) :
    ∃ (id : Int) (s : ByteArray) (A : Option Addr) (c : Nat) (l : List SPrp), v = .agg #[.int .i64 id, .string s, .slice A l.length c] ∧ PropsIn W A c l ∧ (-9223372036854775808 ≤ id ∧ id ≤ 9223372036854775807) ∧ s.size ≤ maxLen := by
  obtain ⟨cs, rfl, -⟩ := okWide_struct Try.underlying24 hv
  obtain ⟨fuel, hf⟩ := h
  obtain ⟨x, hK, hg⟩ := opens_Vert enc W sp held fuel _ _ hf
  obtain ⟨A, c, e, hle, hC⟩ := kVert_open hK
  have e2 : cs.toList = [.int .i64 x.f0, .string x.f1, .slice A x.f2.length c] := by simpa [Value.cells] using e
  refine ⟨x.f0, x.f1, A, c, x.f2, by rw [← Array.toList_inj.1 (show cs.toList = (#[Value.int .i64 x.f0, .string x.f1, .slice A x.f2.length c] : Array Value).toList from e2)], ⟨hC, fun q hq => wf_range (hg.2.2 q hq).2.2.1, hle⟩, wf_range hg.1, hg.2.1⟩
theorem open_ends (hv : Value.okWide Try.prog W r b 25 v) (h : DataW.Trod enc Try.prog W 0 sp held 25 v d p) : ∃ x y : Int, v = .agg #[.int .i64 x, .int .i64 y] := by
  obtain ⟨cs, rfl, -⟩ := okWide_ends Try.underlying25 hv
  obtain ⟨fuel, hf⟩ := h
  obtain ⟨xs, m, _, _, hl, hn, hx⟩ := DataW.trod_array Try.underlying25 hf
  have hl2 : (Value.agg cs).cells.toList.length = 2 := hl.trans (by kernel_rfl)
  obtain ⟨c0, c1, e⟩ := len2 hl2
  obtain ⟨x0, x1, rfl⟩ := len2 hn
  have g0 := hx 0 (by omega)
  have g1 := hx 1 (by omega)
  rw [e] at g0 g1
  simp [co_int] at g0 g1
  obtain ⟨n0, k0, -⟩ := DataW.trod_int Try.underlying3 g0
  obtain ⟨n1, k1, -⟩ := DataW.trod_int Try.underlying3 g1
  simp only [List.cons.injEq, and_true] at k0 k1
  subst k0; subst k1
  refine ⟨n0, n1, ?_⟩
  have e2 : cs.toList = (#[Value.int .i64 n0, .int .i64 n1] : Array Value).toList := by simpa [Value.cells] using e
  rw [Array.toList_inj.1 e2]
end
end Go.Proofs.Ytonbnlfijmapfaa
/- What came in, opened: an edge, a text. No condition. -/
namespace Go.Proofs.Ytonbnlfijmapfaa
set_option linter.constructorNameAsVariable false
open Go.RowKit Go.ChangeShapes Go.WideShapes Go.Proofs.YtonbnlfijmapfaaW.PrintWords
set_option linter.unusedVariables false
set_option linter.unusedSimpArgs false

set_option maxRecDepth 100000
theorem opens_Edg : Opens kEdg 35 (fun v => (Lit.int .i64 v.f0).wf = true ∧ v.f1.size ≤ maxLen ∧ (Lit.int .i64 v.f2).wf = true ∧ (Lit.int .i64 v.f3).wf = true ∧ ∀ p ∈ v.f4, p.f0.size ≤ maxLen ∧ (Lit.int .i64 p.f1.f0).wf = true ∧ (Lit.int .i64 p.f1.f1).wf = true ∧ p.f1.f2.size ≤ maxLen) := by
  intro H enc w sp held fuel cs x h
  obtain ⟨xs, n, _, _, hl, hn, hx⟩ := DataW.trod_struct Try.underlying35 h
  have hl3 : cs.length = 5 := hl.trans co_Edg
  have hn3 : xs.length = 5 := hn
  obtain ⟨c0, c1, c2, c3, c4, rfl⟩ := len5 hl3
  obtain ⟨x0, x1, x2, x3, x4, rfl⟩ := len5 hn3
  clear hl hn hl3 hn3 h
  obtain ⟨a0, k0, g0⟩ := opens_int Try.underlying3 enc w sp held n [c0] x0 (by have h := hx 0 _ rfl; simp [co_int, co_string, co_Value, co_Prp, co_slPrp] at h; exact h)
  obtain ⟨a1, k1, g1⟩ := opens_string Try.underlying9 enc w sp held n [c1] x1 (by have h := hx 1 _ rfl; simp [co_int, co_string, co_Value, co_Prp, co_slPrp] at h; exact h)
  obtain ⟨a2, k2, g2⟩ := opens_int Try.underlying3 enc w sp held n [c2] x2 (by have h := hx 2 _ rfl; simp [co_int, co_string, co_Value, co_Prp, co_slPrp] at h; exact h)
  obtain ⟨a3, k3, g3⟩ := opens_int Try.underlying3 enc w sp held n [c3] x3 (by have h := hx 3 _ rfl; simp [co_int, co_string, co_Value, co_Prp, co_slPrp] at h; exact h)
  obtain ⟨a4, ⟨A4, d4, k4, l4, r4⟩, g4⟩ := opens_slice Try.underlying22 (d := kPrp) co_Prp opens_Prp enc w sp held n [c4] x4 (by have h := hx 4 _ rfl; simp [co_int, co_string, co_Value, co_Prp, co_slPrp] at h; exact h)
  cases k0; cases k1; cases k2; cases k3; cases k4
  exact ⟨⟨a0, a1, a2, a3, a4⟩, kEdg_mk _ _ l4 r4, g0, g1, g2, g3, g4⟩
section
variable {H : Type} {enc : TypeId × Value → H} {W : World} {sp : Nat → Bool} {held : Bool} {r : Reach} {b : Nat} {v : Value} {d : DataW H} {p : List MemPlace}
theorem open_edge (hv : Value.okWide Try.prog W r b 35 v) (h : DataW.Trod enc Try.prog W 0 sp held 35 v d p) :
    ∃ (id : Int) (s : ByteArray) (x y : Int) (A : Option Addr) (c : Nat) (l : List SPrp), v = .agg #[.int .i64 id, .string s, .int .i64 x, .int .i64 y, .slice A l.length c] ∧ PropsIn W A c l ∧ (-9223372036854775808 ≤ id ∧ id ≤ 9223372036854775807) ∧ s.size ≤ maxLen := by
  obtain ⟨cs, rfl, -⟩ := okWide_struct Try.underlying35 hv
  obtain ⟨fuel, hf⟩ := h
  obtain ⟨x, hK, hg⟩ := opens_Edg enc W sp held fuel _ _ hf
  obtain ⟨A, c, e, hle, hC⟩ := kEdg_open hK
  have e2 : cs.toList = [.int .i64 x.f0, .string x.f1, .int .i64 x.f2, .int .i64 x.f3, .slice A x.f4.length c] := by simpa [Value.cells] using e
  refine ⟨x.f0, x.f1, x.f2, x.f3, A, c, x.f4, by rw [← Array.toList_inj.1 (show cs.toList = (#[Value.int .i64 x.f0, .string x.f1, .int .i64 x.f2, .int .i64 x.f3, .slice A x.f4.length c] : Array Value).toList from e2)], ⟨hC, fun q hq => wf_range (hg.2.2.2.2 q hq).2.2.1, hle⟩, wf_range hg.1, hg.2.1⟩
theorem open_str (hv : Value.okWide Try.prog W r b 9 v) (h : DataW.Trod enc Try.prog W 0 sp held 9 v d p) : ∃ s : ByteArray, v = .string s ∧ s.size ≤ maxLen := by
  obtain ⟨s, rfl⟩ := okWide_string Try.underlying9 hv
  obtain ⟨fuel, hf⟩ := h
  obtain ⟨s', h, hx, hs⟩ := DataW.trod_string Try.underlying9 hf
  simp [Value.cells] at h
  subst h
  exact ⟨s, rfl, hs⟩
end
end Go.Proofs.Ytonbnlfijmapfaa
/- What came in, opened: rows of whatever elements; parts of a graph. No condition. -/
namespace Go.Proofs.Ytonbnlfijmapfaa
set_option linter.constructorNameAsVariable false
open Go.RowKit Go.ChangeShapes Go.WideShapes Go.Proofs.YtonbnlfijmapfaaW.PrintWords
set_option linter.unusedVariables false
set_option linter.unusedSimpArgs false

set_option maxRecDepth 100000
def gPrp (p : SPrp) : Prop := p.f0.size ≤ maxLen ∧ (Lit.int .i64 p.f1.f0).wf = true ∧ (Lit.int .i64 p.f1.f1).wf = true ∧ p.f1.f2.size ≤ maxLen
def gVert (v : SVert) : Prop := (Lit.int .i64 v.f0).wf = true ∧ v.f1.size ≤ maxLen ∧ ∀ p ∈ v.f2, gPrp p
def gEdg (v : SEdg) : Prop := (Lit.int .i64 v.f0).wf = true ∧ v.f1.size ≤ maxLen ∧ (Lit.int .i64 v.f2).wf = true ∧ (Lit.int .i64 v.f3).wf = true ∧ ∀ p ∈ v.f4, gPrp p
section
variable {H : Type} {enc : TypeId × Value → H} {W : World} {sp : Nat → Bool} {held : Bool} {r : Reach} {b : Nat} {v : Value} {d : DataW H} {p : List MemPlace}
theorem open_row {α : Type} [Inhabited α] {k : Kd α} {T e : TypeId} {g : α → Prop} (ht : Try.prog.underlying T = some (.slice e)) (hc : Try.prog.cellsOf e = k.sz) (ho : Opens k e g)
    (hv : Value.okWide Try.prog W r b T v) (h : DataW.Trod enc Try.prog W 0 sp held T v d p) : ∃ (A : Option Addr) (c : Nat) (l : List α), v = .slice A l.length c ∧ k.C W A l.length l ∧ l.length ≤ c ∧ ∀ x ∈ l, g x := by
  obtain ⟨a, n, c, rfl⟩ := okWide_slice ht hv
  obtain ⟨fuel, hf⟩ := h
  obtain ⟨l, ⟨A, c2, e2, hl, hC⟩, hg⟩ := opens_slice ht hc ho enc W sp held fuel _ _ hf
  have e3 : Value.slice a n c = .slice A l.length c2 := by simpa [Value.cells] using e2
  exact ⟨A, c2, l, e3, hC, hl, hg⟩
theorem open_ints (hv : Value.okWide Try.prog W r b 49 v) (h : DataW.Trod enc Try.prog W 0 sp held 49 v d p) : ∃ (A : Option Addr) (c : Nat) (l : List Int), v = .slice A l.length c ∧ (Kd.int .i64).C W A l.length l ∧ l.length ≤ c ∧ ∀ x ∈ l, (Lit.int .i64 x).wf = true :=
  open_row Try.underlying49 co_int (opens_int Try.underlying3) hv h
theorem open_props (hv : Value.okWide Try.prog W r b 22 v) (h : DataW.Trod enc Try.prog W 0 sp held 22 v d p) : ∃ (A : Option Addr) (c : Nat) (l : List SPrp), v = .slice A l.length c ∧ kPrp.C W A l.length l ∧ l.length ≤ c ∧ ∀ x ∈ l, gPrp x :=
  open_row Try.underlying22 co_Prp opens_Prp hv h
theorem open_verts (hv : Value.okWide Try.prog W r b 32 v) (h : DataW.Trod enc Try.prog W 0 sp held 32 v d p) : ∃ (A : Option Addr) (c : Nat) (l : List SVert), v = .slice A l.length c ∧ kVert.C W A l.length l ∧ l.length ≤ c ∧ ∀ x ∈ l, gVert x :=
  open_row Try.underlying32 co_Vert opens_Vert hv h
theorem open_edges (hv : Value.okWide Try.prog W r b 72 v) (h : DataW.Trod enc Try.prog W 0 sp held 72 v d p) : ∃ (A : Option Addr) (c : Nat) (l : List SEdg), v = .slice A l.length c ∧ kEdg.C W A l.length l ∧ l.length ≤ c ∧ ∀ x ∈ l, gEdg x :=
  open_row Try.underlying72 co_Edg opens_Edg hv h
end
end Go.Proofs.Ytonbnlfijmapfaa
/- What came in, opened, with the bound of the second form: keys are no longer than all that came in. No condition. -/
namespace Go.Proofs.Ytonbnlfijmapfaa
set_option linter.constructorNameAsVariable false
open Go.RowKit Go.ChangeShapes Go.WideShapes Go.Proofs.YtonbnlfijmapfaaW.PrintWords
set_option linter.unusedVariables false
set_option linter.unusedSimpArgs false

set_option maxRecDepth 100000
theorem bulk_part {H : Type} {d : DataW H} {l : List (DataW H)} (h : d ∈ l) : Rows.uptoBulk d ≤ Rows.uptoBulkAll l := by
  induction l with
  | nil => cases h
  | cons x r ih =>
    simp only [Rows.uptoBulkAll]
    cases List.mem_cons.1 h with
    | inl e => subst e; omega
    | inr e => have := ih e; omega
theorem bulk_agg {H : Type} {d : DataW H} {l : List (DataW H)} (h : d ∈ l) : Rows.uptoBulk d ≤ Rows.uptoBulk (.agg l) := by
  have := bulk_part h
  simp only [Rows.uptoBulk]; omega
theorem bulk_slice {H : Type} {d : DataW H} {l r : List (DataW H)} (h : d ∈ l) : Rows.uptoBulk d ≤ Rows.uptoBulk (.slice l r) := by
  have := bulk_part h
  simp only [Rows.uptoBulk]; omega
theorem bulk_str {H : Type} (s : ByteArray) : s.size ≤ Rows.uptoBulk (DataW.lit (H := H) (.string s.data.toList)) := by
  simp only [Rows.uptoBulk]
  have : s.data.toList.length = s.size := by rw [Array.length_toList]; rfl
  omega
/-- A datum of type T reads as one of the kind d, bounded by its bulk. -/
def OpensN {α : Type} (d : Kd α) (T : TypeId) (bd : α → Nat → Prop) : Prop :=
  ∀ {H : Type} (enc : TypeId × Value → H) (w : World) (sp : Nat → Bool) (held : Bool) (fuel : Nat) (cs : List Value) (x : DataW H × List MemPlace), DataW.trod enc Try.prog w 0 sp held fuel T cs = some x → ∃ a, d.K w a cs ∧ bd a (Rows.uptoBulk x.1)
theorem opensN_slice {α : Type} [Inhabited α] {d : Kd α} {T e : TypeId} {bd : α → Nat → Prop} (hmono : ∀ a n m, bd a n → n ≤ m → bd a m) (ht : Try.prog.underlying T = some (.slice e)) (hc : Try.prog.cellsOf e = d.sz) (ho : OpensN d e bd) : OpensN (Kd.slice e d) T (fun l n => ∀ x ∈ l, bd x n) := by
  intro H enc w sp held fuel cs x h
  rcases DataW.trod_slice ht h with ⟨rfl, _⟩ | ⟨a, len, cap, elems, rest, n, _, rfl, rfl, _, hl, hm, hlen, hel, _, _⟩
  · exact ⟨[], ⟨none, 0, rfl, Nat.le_refl _, Kd.C_nil _ _⟩, fun x hx => by simp at hx⟩
  · have key : ∀ i, i < len → ∃ y cs', w.cells? 0 (a.add (i * Try.prog.cellsOf e)) (Try.prog.cellsOf e) = some cs' ∧ d.K w y cs' ∧ bd y (Rows.uptoBulk (.slice (elems.map (·.1)) (rest.map (·.1)))) := by
      intro i hi
      have := hel i hi
      rw [List.getElem?_eq_getElem (by omega)] at this
      obtain ⟨cs', h1, h2⟩ := Option.bind_eq_some_iff.1 this
      obtain ⟨y, hk, hg⟩ := ho enc w sp held n cs' _ h2
      exact ⟨y, cs', h1, hk, hmono _ _ _ hg (bulk_slice (List.mem_map.2 ⟨_, List.getElem_mem (by omega), rfl⟩))⟩
    obtain ⟨f, hf⟩ := Go.Deep.choose_lt key
    have hlr : ((List.range len).map f).length = len := by simp
    refine ⟨(List.range len).map f, ⟨some a, cap, by rw [hlr], by rw [hlr]; exact hl, ?_⟩, fun x hx => ?_⟩
    · rw [hlr]
      refine ⟨hlr, by simp only [maxLen] at hm; omega, fun _ => ⟨a, rfl, fun j p hj => ?_⟩⟩
      have hjl : j < len := by
        rcases Nat.lt_or_ge j len with h2 | h2
        · exact h2
        · rw [List.getElem?_eq_none (by rw [hlr]; exact h2)] at hj; cases hj
      obtain rfl : p = f j := by simp [hjl] at hj; exact hj.symm
      obtain ⟨cs', h1, h2, h3⟩ := hf j hjl
      rw [hc] at h1
      obtain ⟨e1, e2⟩ := cells_each h1
      exact ⟨cs', e1, h2, fun i u hu => by rw [← add_add_]; exact e2 i u hu⟩
    · simp only [List.mem_map, List.mem_range] at hx
      obtain ⟨j, hj, rfl⟩ := hx
      obtain ⟨_, _, _, h3⟩ := hf j hj
      exact h3
theorem opensN_str {T : TypeId} (ht : Try.prog.underlying T = some .string) : OpensN Kd.string T (fun s n => s.size ≤ n) := by
  intro H enc w sp held fuel cs x h
  obtain ⟨s, rfl, rfl, _⟩ := DataW.trod_string ht h
  exact ⟨s, rfl, bulk_str s⟩
def bdP (p : SPrp) (n : Nat) : Prop := p.f0.size ≤ n
def bdV (v : SVert) (n : Nat) : Prop := ∀ p ∈ v.f2, p.f0.size ≤ n
def bdE (v : SEdg) (n : Nat) : Prop := ∀ p ∈ v.f4, p.f0.size ≤ n
theorem bdP_mono : ∀ a n m, bdP a n → n ≤ m → bdP a m := fun _ _ _ h1 h2 => Nat.le_trans h1 h2
theorem bdV_mono : ∀ a n m, bdV a n → n ≤ m → bdV a m := fun _ _ _ h1 h2 p hp => Nat.le_trans (h1 p hp) h2
theorem bdE_mono : ∀ a n m, bdE a n → n ≤ m → bdE a m := fun _ _ _ h1 h2 p hp => Nat.le_trans (h1 p hp) h2
theorem opensN_Prp : OpensN kPrp 117 bdP := by
  intro H enc w sp held fuel cs x h
  obtain ⟨xs, n, _, rfl, hl, hn, hx⟩ := DataW.trod_struct Try.underlying117 h
  have hl3 : cs.length = 4 := hl.trans co_Prp
  have hn3 : xs.length = 2 := hn
  obtain ⟨c0, c1, c2, c3, rfl⟩ := len4 hl3
  obtain ⟨x0, x1, rfl⟩ := len2 hn3
  clear hl hn hl3 hn3 h
  obtain ⟨a0, k0, g0⟩ := opensN_str Try.underlying9 enc w sp held n [c0] x0 (by have h := hx 0 _ rfl; simp [co_int, co_string, co_Value, co_Prp, co_slPrp] at h; exact h)
  obtain ⟨a1, k1, g1⟩ := opens_Value enc w sp held n [c1, c2, c3] x1 (by have h := hx 1 _ rfl; simp [co_int, co_string, co_Value, co_Prp, co_slPrp] at h; exact h)
  cases k0
  have e := kValue_open k1
  simp only [List.cons.injEq, and_true] at e
  obtain ⟨rfl, rfl, rfl⟩ := e
  exact ⟨⟨a0, a1⟩, kPrp_mk _ _, Nat.le_trans g0 (bulk_agg (by simp))⟩
theorem opensN_Vert : OpensN kVert 24 bdV := by
  intro H enc w sp held fuel cs x h
  obtain ⟨xs, n, _, rfl, hl, hn, hx⟩ := DataW.trod_struct Try.underlying24 h
  have hl3 : cs.length = 3 := hl.trans co_Vert
  have hn3 : xs.length = 3 := hn
  obtain ⟨c0, c1, c2, rfl⟩ := len3 hl3
  obtain ⟨x0, x1, x2, rfl⟩ := len3 hn3
  clear hl hn hl3 hn3 h
  obtain ⟨a0, k0, g0⟩ := opens_int Try.underlying3 enc w sp held n [c0] x0 (by have h := hx 0 _ rfl; simp [co_int, co_string, co_Value, co_Prp, co_slPrp] at h; exact h)
  obtain ⟨a1, k1, g1⟩ := opens_string Try.underlying9 enc w sp held n [c1] x1 (by have h := hx 1 _ rfl; simp [co_int, co_string, co_Value, co_Prp, co_slPrp] at h; exact h)
  obtain ⟨a2, ⟨A2, d2, k2, l2, r2⟩, g2⟩ := opensN_slice bdP_mono Try.underlying22 (d := kPrp) co_Prp opensN_Prp enc w sp held n [c2] x2 (by have h := hx 2 _ rfl; simp [co_int, co_string, co_Value, co_Prp, co_slPrp] at h; exact h)
  cases k0; cases k1; cases k2
  exact ⟨⟨a0, a1, a2⟩, kVert_mk _ _ l2 r2, fun p hp => Nat.le_trans (g2 p hp) (bulk_agg (by simp))⟩
theorem opensN_Edg : OpensN kEdg 35 bdE := by
  intro H enc w sp held fuel cs x h
  obtain ⟨xs, n, _, rfl, hl, hn, hx⟩ := DataW.trod_struct Try.underlying35 h
  have hl3 : cs.length = 5 := hl.trans co_Edg
  have hn3 : xs.length = 5 := hn
  obtain ⟨c0, c1, c2, c3, c4, rfl⟩ := len5 hl3
  obtain ⟨x0, x1, x2, x3, x4, rfl⟩ := len5 hn3
  clear hl hn hl3 hn3 h
  obtain ⟨a0, k0, g0⟩ := opens_int Try.underlying3 enc w sp held n [c0] x0 (by have h := hx 0 _ rfl; simp [co_int, co_string, co_Value, co_Prp, co_slPrp] at h; exact h)
  obtain ⟨a1, k1, g1⟩ := opens_string Try.underlying9 enc w sp held n [c1] x1 (by have h := hx 1 _ rfl; simp [co_int, co_string, co_Value, co_Prp, co_slPrp] at h; exact h)
  obtain ⟨a2, k2, g2⟩ := opens_int Try.underlying3 enc w sp held n [c2] x2 (by have h := hx 2 _ rfl; simp [co_int, co_string, co_Value, co_Prp, co_slPrp] at h; exact h)
  obtain ⟨a3, k3, g3⟩ := opens_int Try.underlying3 enc w sp held n [c3] x3 (by have h := hx 3 _ rfl; simp [co_int, co_string, co_Value, co_Prp, co_slPrp] at h; exact h)
  obtain ⟨a4, ⟨A4, d4, k4, l4, r4⟩, g4⟩ := opensN_slice bdP_mono Try.underlying22 (d := kPrp) co_Prp opensN_Prp enc w sp held n [c4] x4 (by have h := hx 4 _ rfl; simp [co_int, co_string, co_Value, co_Prp, co_slPrp] at h; exact h)
  cases k0; cases k1; cases k2; cases k3; cases k4
  exact ⟨⟨a0, a1, a2, a3, a4⟩, kEdg_mk _ _ l4 r4, fun p hp => Nat.le_trans (g4 p hp) (bulk_agg (by simp))⟩
theorem co_slVert : Try.prog.cellsOf 32 = 1 := by kernel_rfl
theorem co_slEdg : Try.prog.cellsOf 72 = 1 := by kernel_rfl
section
variable {H : Type} {enc : TypeId × Value → H} {W : World} {sp : Nat → Bool} {held : Bool} {r : Reach} {b : Nat} {v : Value} {d : DataW H} {p : List MemPlace}

theorem open_parts17 (hv : Value.okWide Try.prog W r b 88 v) (h : DataW.Trod enc Try.prog W 0 sp held 88 v d p) :
    ∃ (A : Option Addr) (c : Nat) (vs : List SVert) (B : Option Addr) (e : Nat) (es : List SEdg), v = .agg #[.slice A vs.length c, .slice B es.length e] ∧ kVert.C W A vs.length vs ∧ kEdg.C W B es.length es ∧ (∀ n, Rows.uptoBulk d ≤ n → (∀ x ∈ vs, ∀ p ∈ x.f2, p.f0.size ≤ n) ∧ ∀ x ∈ es, ∀ p ∈ x.f4, p.f0.size ≤ n) := by
  obtain ⟨cs, rfl, -⟩ := okWide_struct Try.underlying88 hv
  obtain ⟨fuel, hf⟩ := h
  obtain ⟨xs, n, _, he, hl, hn, hx⟩ := DataW.trod_struct Try.underlying88 hf
  have hl2 : (Value.agg cs).cells.toList.length = 2 := hl.trans (by kernel_rfl)
  have hn2 : xs.length = 2 := hn
  obtain ⟨c0, c1, e⟩ := len2 hl2
  obtain ⟨x0, x1, rfl⟩ := len2 hn2
  have g0 := hx 0 _ rfl
  have g1 := hx 1 _ rfl
  rw [e] at g0 g1
  simp [co_slVert, co_slEdg] at g0 g1
  obtain ⟨vs, ⟨A, c, k0, l0, r0⟩, b0⟩ := opensN_slice bdV_mono Try.underlying32 (d := kVert) co_Vert opensN_Vert enc W sp held n [c0] x0 g0
  obtain ⟨es, ⟨B, e', k1, l1, r1⟩, b1⟩ := opensN_slice bdE_mono Try.underlying72 (d := kEdg) co_Edg opensN_Edg enc W sp held n [c1] x1 g1
  simp only [List.cons.injEq, and_true] at k0 k1
  subst k0; subst k1
  have e2 : cs.toList = (#[Value.slice A vs.length c, Value.slice B es.length e'] : Array Value).toList := by simpa [Value.cells] using e
  refine ⟨A, c, vs, B, e', es, by rw [Array.toList_inj.1 e2], r0, r1, fun m hm => ?_⟩
  have hd : d = .agg [x0.1, x1.1] := congrArg Prod.fst he
  rw [hd] at hm
  have h0 : Rows.uptoBulk x0.1 ≤ m := Nat.le_trans (bulk_agg (by simp)) hm
  have h1 : Rows.uptoBulk x1.1 ≤ m := Nat.le_trans (bulk_agg (by simp)) hm
  exact ⟨fun x hx p hp => Nat.le_trans (b0 x hx p hp) h0, fun x hx p hp => Nat.le_trans (b1 x hx p hp) h1⟩

theorem open_parts19 (hv : Value.okWide Try.prog W r b 99 v) (h : DataW.Trod enc Try.prog W 0 sp held 99 v d p) :
    ∃ (A : Option Addr) (c : Nat) (vs : List SVert) (B : Option Addr) (e : Nat) (es : List SEdg), v = .agg #[.slice A vs.length c, .slice B es.length e] ∧ kVert.C W A vs.length vs ∧ kEdg.C W B es.length es ∧ (∀ n, Rows.uptoBulk d ≤ n → (∀ x ∈ vs, ∀ p ∈ x.f2, p.f0.size ≤ n) ∧ ∀ x ∈ es, ∀ p ∈ x.f4, p.f0.size ≤ n) := by
  obtain ⟨cs, rfl, -⟩ := okWide_struct Try.underlying99 hv
  obtain ⟨fuel, hf⟩ := h
  obtain ⟨xs, n, _, he, hl, hn, hx⟩ := DataW.trod_struct Try.underlying99 hf
  have hl2 : (Value.agg cs).cells.toList.length = 2 := hl.trans (by kernel_rfl)
  have hn2 : xs.length = 2 := hn
  obtain ⟨c0, c1, e⟩ := len2 hl2
  obtain ⟨x0, x1, rfl⟩ := len2 hn2
  have g0 := hx 0 _ rfl
  have g1 := hx 1 _ rfl
  rw [e] at g0 g1
  simp [co_slVert, co_slEdg] at g0 g1
  obtain ⟨vs, ⟨A, c, k0, l0, r0⟩, b0⟩ := opensN_slice bdV_mono Try.underlying32 (d := kVert) co_Vert opensN_Vert enc W sp held n [c0] x0 g0
  obtain ⟨es, ⟨B, e', k1, l1, r1⟩, b1⟩ := opensN_slice bdE_mono Try.underlying72 (d := kEdg) co_Edg opensN_Edg enc W sp held n [c1] x1 g1
  simp only [List.cons.injEq, and_true] at k0 k1
  subst k0; subst k1
  have e2 : cs.toList = (#[Value.slice A vs.length c, Value.slice B es.length e'] : Array Value).toList := by simpa [Value.cells] using e
  refine ⟨A, c, vs, B, e', es, by rw [Array.toList_inj.1 e2], r0, r1, fun m hm => ?_⟩
  have hd : d = .agg [x0.1, x1.1] := congrArg Prod.fst he
  rw [hd] at hm
  have h0 : Rows.uptoBulk x0.1 ≤ m := Nat.le_trans (bulk_agg (by simp)) hm
  have h1 : Rows.uptoBulk x1.1 ≤ m := Nat.le_trans (bulk_agg (by simp)) hm
  exact ⟨fun x hx p hp => Nat.le_trans (b0 x hx p hp) h0, fun x hx p hp => Nat.le_trans (b1 x hx p hp) h1⟩

/-- The bound at the first argument. -/
theorem bulk_first {H : Type} {d : DataW H} {ds gs : List (DataW H)} (hk : Rows.uptoSmall H ((d :: ds) ++ gs) = true) : Rows.uptoBulk d ≤ 2000000 := by
  have h : Rows.uptoBulkAll ((d :: ds) ++ gs) ≤ 1048576 := of_decide_eq_true hk
  rw [List.cons_append] at h
  simp only [Rows.uptoBulkAll] at h
  omega
end
end Go.Proofs.Ytonbnlfijmapfaa
