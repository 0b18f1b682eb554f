/- cobwebref02.sign, Order, Compare. -/
import Derived.Test.YtonbnlfijmapfaaL9
import Derived.Test.YtonbnlfijmapfaaP2
import Derived.Test.YtonbnlfijmapfaaE0
import Derived.Test.YtonbnlfijmapfaaK4
namespace Go.Proofs.Ytonbnlfijmapfaa
open Go.RowKit Go.Shelf Go.Proofs.YtonbnlfijmapfaaW.PrintWords
set_option linter.unusedVariables false
set_option linter.unusedSimpArgs false

set_option maxHeartbeats 1000000 in
theorem ref02_sign_calls (b : Bool) (w : World) :
    Calls Try.prog 73 #[.bool b] w fun e w' => e = .returned (.int .i64 (if b = true then -1 else 1)) ∧ w = w' := by
  cases b
  · go_enter Try.func73, Try.ntmps73
    go_wp2
    go_ret
    exact ⟨rfl, rfl⟩
  · go_enter Try.func73, Try.ntmps73
    go_wp2
    go_ret
    exact ⟨rfl, rfl⟩

theorem bytesOf_dropc (s : ByteArray) (k : Nat) (h : k < s.size) : (bytesOf s).drop k = ((s[k]'h).toNat : Int) :: (bytesOf s).drop (k + 1) := by
  have hl : k < (bytesOf s).length := by rw [bytesOf_length]; exact h
  rw [List.drop_eq_getElem_cons hl]
  congr 1
  simp [bytesOf]
  rfl
theorem ord_signT (x y : Int) (a b : List Int) (h : ¬ x = y) : ord (x :: a) (y :: b) = if decide (x < y) = true then -1 else 1 := by
  rw [ord_cons, if_neg h]; simp

set_option maxHeartbeats 2000000 in
theorem ref02_Order_calls (a b : ByteArray) (w : World) (ha : a.size ≤ 140737488355328) (hb : b.size ≤ 140737488355328) :
    Calls Try.prog 26 #[.string a, .string b] w fun e w' => e = .returned (.int .i64 (ord (bytesOf a) (bytesOf b))) ∧ Quiet w w' := by
  go_enter Try.func26, Try.ntmps26
  go_wp2
  go_loopw [5] (fun v5 wr => ∃ (k : Nat), k ≤ a.size ∧ k ≤ b.size ∧ v5 = .int .i64 k ∧ Hid (Quiet w wr) ∧ Hid (ord ((bytesOf a).drop k) ((bytesOf b).drop k) = ord (bytesOf a) (bytesOf b))) (fun v5 _ => a.size - (intOf v5).toNat)
  case atStart => exact ⟨0, by omega, by omega, rfl, Lib.hid (quiet_refl _), Lib.hid rfl⟩
  case round =>
    obtain ⟨k, hk, hk2, rfl, HB, HT⟩ := hrel
    by_cases hlt : k < a.size
    · have hlt1 : (k : Int) < (a.size : Int) := by omega
      by_cases hlt2 : k < b.size
      · have hlt3 : (k : Int) < (b.size : Int) := by omega
        have HA := Lib.hid (bytesOf_dropc a k hlt)
        have HC := Lib.hid (bytesOf_dropc b k hlt2)
        have q := ref02_sign_calls
        by_cases he : ((a[k]'hlt).toNat : Int) = ((b[k]'hlt2).toNat : Int)
        · have he1 : (((a[k]'hlt).toNat : Int) != ((b[k]'hlt2).toNat : Int)) = false := by simp [he]
          have HE := Lib.hid he; clear he
          go_wp2_with fail
          go_big_quiet (fail)
          go_wp2
          go_roundw
          case rel => exact ⟨k + 1, by omega, by omega, by go_num, Lib.hid (quiet_step HB.out _), Lib.hid (by rw [← HT.out, HA.out, HC.out, HE.out, ord_at])⟩
          case measure => simp [intOf]; omega
        · have he1 : (((a[k]'hlt).toNat : Int) != ((b[k]'hlt2).toNat : Int)) = true := by simp [he]
          have HE := Lib.hid he; clear he
          have HQ := Lib.hid q; clear q
          by_cases hd : (a[k]'hlt).toNat < (b[k]'hlt2).toNat
          · have hd1 : decide ((a[k]'hlt).toNat < (b[k]'hlt2).toNat) = true := decide_eq_true hd
            have HD := Lib.hid (show ord (((a[k]'hlt).toNat : Int) :: (bytesOf a).drop (k + 1)) (((b[k]'hlt2).toNat : Int) :: (bytesOf b).drop (k + 1)) = -1 from ord_lt _ _ _ _ (by omega)); clear hd
            go_wp2_with fail
            go_big_quiet (fail)
            go_wp2_with fail
            go_big_quiet ((go_at_call 73; exact quiet_joined (HQ.out _)))
            go_wp2
            go_ret
            exact ⟨ret_int (by rw [← HT.out, HA.out, HC.out, HD.out]), by first | exact quiet_step HB.out _ | exact quiet_step (quiet_step HB.out _) _⟩
          · have hd1 : decide ((a[k]'hlt).toNat < (b[k]'hlt2).toNat) = false := decide_eq_false hd
            have HD := Lib.hid (show ord (((a[k]'hlt).toNat : Int) :: (bytesOf a).drop (k + 1)) (((b[k]'hlt2).toNat : Int) :: (bytesOf b).drop (k + 1)) = 1 from ord_gt _ _ _ _ (by have := HE.out; omega)); clear hd
            go_wp2_with fail
            go_big_quiet (fail)
            go_wp2_with fail
            go_big_quiet ((go_at_call 73; exact quiet_joined (HQ.out _)))
            go_wp2
            go_ret
            exact ⟨ret_int (by rw [← HT.out, HA.out, HC.out, HD.out]), by first | exact quiet_step HB.out _ | exact quiet_step (quiet_step HB.out _) _⟩
      · have hlt3 : ¬ (k : Int) < (b.size : Int) := by omega
        have hne : ¬ ((a.size : Int) = (b.size : Int)) := by omega
        have hnl : ¬ ((a.size : Int) < (b.size : Int)) := by omega
        have HA := Lib.hid (bytesOf_dropc a k hlt)
        have HC := Lib.hid (show (bytesOf b).drop k = [] from List.drop_eq_nil_of_le (by rw [bytesOf_length]; omega))
        go_wp2_with (go_at_call 73; refine (ref02_sign_calls _ _).mono ?_; rintro e w' ⟨rfl, rfl⟩)
        go_ret
        exact ⟨ret_int (by rw [← HT.out, HA.out, HC.out, ord]; first | done | rfl | simp), HB.out⟩
    · have hlt1 : ¬ (k : Int) < (a.size : Int) := by omega
      have HA := Lib.hid (show (bytesOf a).drop k = [] from List.drop_eq_nil_of_le (by rw [bytesOf_length]; omega))
      by_cases hlt2 : k < b.size
      · have hne : ¬ ((a.size : Int) = (b.size : Int)) := by omega
        have hnl : ((a.size : Int) < (b.size : Int)) := by omega
        have HC := Lib.hid (bytesOf_dropc b k hlt2)
        go_wp2_with (go_at_call 73; refine (ref02_sign_calls _ _).mono ?_; rintro e w' ⟨rfl, rfl⟩)
        go_ret
        exact ⟨ret_int (by rw [← HT.out, HA.out, HC.out, ord]; first | done | rfl | simp), HB.out⟩
      · have hne : ((a.size : Int) = (b.size : Int)) := by omega
        have HC := Lib.hid (show (bytesOf b).drop k = [] from List.drop_eq_nil_of_le (by rw [bytesOf_length]; omega))
        go_wp2
        go_ret
        exact ⟨ret_int (by rw [← HT.out, HA.out, HC.out, ord]), HB.out⟩
end Go.Proofs.Ytonbnlfijmapfaa
