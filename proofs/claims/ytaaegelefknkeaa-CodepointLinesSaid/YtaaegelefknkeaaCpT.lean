/- The walks of the laws that compare with the reference. -/
import Derived.Test.YtaaegelefknkeaaCpS
namespace Go.Proofs.Ytaaegelefknkeaa
open Go.RowKit Go.Shelf
set_option linter.unusedSimpArgs false

theorem long1 (s : ByteArray) (w : World) (b : Bool) (hb : decide (400 < s.size) = b) :
    Calls Try.prog 13 #[.slice (some ⟨w.heap.size, 0, none⟩) 1 1] (w.alloc (.cells #[.string s] 9)) fun e w' => e = .returned (.bool b) ∧ w.alloc (.cells #[.string s] 9) = w' := by
  have h := long_any w.heap.size 1 1 [s] rfl (by omega) (w.alloc (.cells #[.string s] 9)) (fun k x hx => by
    have hk : k < 1 := (List.getElem?_eq_some_iff.1 hx).1
    obtain rfl : k = 0 := by omega
    obtain rfl : s = x := by simpa using hx
    exact (Boxed.new w 9 (.string s)).cell)
  rw [show longF [s] = b by simp [longF, ← hb]] at h
  exact h

theorem bchain {a b c : World} (h1 : Below a.heap.size a b) (h2 : Below b.heap.size b c) : Below a.heap.size a c := h1.trans (h2.mono h1.size)
theorem b0 (w : World) (o : Obj) : Below w.heap.size w (w.alloc o) := (Below.refl _ _).alloc (Nat.le_refl _) _

theorem long2 (s t : ByteArray) (w : World) (b : Bool) (hb : (decide (400 < s.size) || decide (400 < t.size)) = b) :
    Calls Try.prog 13 #[.slice (some ⟨w.heap.size, 0, none⟩) 2 2] (w.alloc (.cells #[.string s, .string t] 9)) fun e w' => e = .returned (.bool b) ∧ w.alloc (.cells #[.string s, .string t] 9) = w' := by
  have h := long_any w.heap.size 2 2 [s, t] rfl (by omega) (w.alloc (.cells #[.string s, .string t] 9)) (fun k x hx => by
    rw [cell_of_row _ w.heap.size k #[.string s, .string t] 9 (0, 0) (heap_alloc_new w _)]
    have hk : k < 2 := (List.getElem?_eq_some_iff.1 hx).1
    rcases (by omega : k = 0 ∨ k = 1) with rfl | rfl
    · obtain rfl : s = x := by simpa using hx
      rfl
    · obtain rfl : t = x := by simpa using hx
      rfl)
  rw [show longF [s, t] = b by simp [longF, ← hb]] at h
  exact h
theorem long3 (s t u : ByteArray) (w : World) (b : Bool) (hb : (decide (400 < s.size) || decide (400 < t.size) || decide (400 < u.size)) = b) :
    Calls Try.prog 13 #[.slice (some ⟨w.heap.size, 0, none⟩) 3 3] (w.alloc (.cells #[.string s, .string t, .string u] 9)) fun e w' => e = .returned (.bool b) ∧ w.alloc (.cells #[.string s, .string t, .string u] 9) = w' := by
  have h := long_any w.heap.size 3 3 [s, t, u] rfl (by omega) (w.alloc (.cells #[.string s, .string t, .string u] 9)) (fun k x hx => by
    rw [cell_of_row _ w.heap.size k #[.string s, .string t, .string u] 9 (0, 0) (heap_alloc_new w _)]
    have hk : k < 3 := (List.getElem?_eq_some_iff.1 hx).1
    rcases (by omega : k = 0 ∨ k = 1 ∨ k = 2) with rfl | rfl | rfl
    · obtain rfl : s = x := by simpa using hx
      rfl
    · obtain rfl : t = x := by simpa using hx
      rfl
    · obtain rfl : u = x := by simpa using hx
      rfl)
  rw [show longF [s, t, u] = b by simp [longF, ← hb, Bool.or_assoc]] at h
  exact h

set_option maxHeartbeats 4000000 in
theorem walk_Reverses (s : ByteArray) (w : World) :
    Calls Try.prog 5 #[.string s] w fun e w' => e = .returned (.bool true) ∧ Below w.heap.size w w' := by
  by_cases hl : 400 < s.size
  · have hl1 : decide (400 < s.size) = true := decide_eq_true hl
    have HL := Lib.hid hl1
    clear hl hl1
    go_enter Try.func5, Try.ntmps5
    go_wp2_with (go_at_call 13; refine (long1 s w true HL.out).mono ?_; rintro e w' ⟨rfl, rfl⟩)
    go_ret
    exact ⟨rfl, b0 _ _⟩
  · have hl1 : decide (400 < s.size) = false := decide_eq_false hl
    have HL := Lib.hid hl1
    have hs : s.size ≤ 1000000 := by omega
    clear hl hl1
    go_enter Try.func5, Try.ntmps5
    go_wp2_with (first | (go_at_call 13; refine (long1 s w false HL.out).mono ?_; rintro e w' ⟨rfl, rfl⟩) | (go_at_call 17; refine (Reverse_any s hs _).mono ?_; rintro e w' ⟨rfl, hb1⟩) | (go_at_call 18; refine (RReverse_any s hs _).mono ?_; rintro e w' ⟨rfl, hb2⟩) | (go_at_call 16; refine (awake_any _).mono ?_; rintro e w' ⟨rfl, hb3⟩))
    go_ret
    exact ⟨rfl, bchain (bchain (bchain (b0 _ _) hb1) hb2) hb3⟩

set_option maxHeartbeats 4000000 in
theorem walk_Folds (s : ByteArray) (w : World) :
    Calls Try.prog 8 #[.string s] w fun e w' => e = .returned (.bool true) ∧ Below w.heap.size w w' := by
  by_cases hl : 400 < s.size
  · have hl1 : decide (400 < s.size) = true := decide_eq_true hl
    have HL := Lib.hid hl1
    clear hl hl1
    go_enter Try.func8, Try.ntmps8
    go_wp2_with (go_at_call 13; refine (long1 s w true HL.out).mono ?_; rintro e w' ⟨rfl, rfl⟩)
    go_ret
    exact ⟨rfl, b0 _ _⟩
  · have hl1 : decide (400 < s.size) = false := decide_eq_false hl
    have HL := Lib.hid hl1
    have hs : s.size ≤ 1000000 := by omega
    clear hl hl1
    go_enter Try.func8, Try.ntmps8
    go_wp2_with (first | (go_at_call 13; refine (long1 s w false HL.out).mono ?_; rintro e w' ⟨rfl, rfl⟩) | (go_at_call 25; refine (Fold_any s hs _).mono ?_; rintro e w' ⟨rfl, hb1⟩) | (go_at_call 26; refine (RFold_any s hs _).mono ?_; rintro e w' ⟨rfl, hb2⟩) | (go_at_call 16; refine (awake_any _).mono ?_; rintro e w' ⟨rfl, hb3⟩))
    go_ret
    exact ⟨rfl, bchain (bchain (bchain (b0 _ _) hb1) hb2) hb3⟩

set_option maxHeartbeats 4000000 in
theorem walk_Compares (a b : ByteArray) (w : World) :
    Calls Try.prog 9 #[.string a, .string b] w fun e w' => e = .returned (.bool true) ∧ Below w.heap.size w w' := by
  by_cases hl : 400 < a.size ∨ 400 < b.size
  · have hl1 : (decide (400 < a.size) || decide (400 < b.size)) = true := by simpa using hl
    have HL := Lib.hid hl1
    clear hl hl1
    go_enter Try.func9, Try.ntmps9
    go_wp2_with (go_at_call 13; refine (long2 a b w true HL.out).mono ?_; rintro e w' ⟨rfl, rfl⟩)
    go_ret
    exact ⟨rfl, b0 _ _⟩
  · have hl1 : (decide (400 < a.size) || decide (400 < b.size)) = false := by simp; omega
    have HL := Lib.hid hl1
    have ha : a.size ≤ 1000000 := by omega
    have hb : b.size ≤ 1000000 := by omega
    clear hl hl1
    go_enter Try.func9, Try.ntmps9
    go_wp2_with (first | (go_at_call 13; refine (long2 a b w false HL.out).mono ?_; rintro e w' ⟨rfl, rfl⟩) | (go_at_call 27; refine (Compare_any a b ha hb _).mono ?_; rintro e w' ⟨rfl, hb1⟩) | (go_at_call 28; refine (RCompare_any a b ha hb _).mono ?_; rintro e w' ⟨rfl, hb2⟩) | (go_at_call 16; refine (awake_any _).mono ?_; rintro e w' ⟨rfl, hb3⟩))
    go_ret
    exact ⟨rfl, bchain (bchain (bchain (b0 _ _) hb1) hb2) hb3⟩

set_option maxHeartbeats 4000000 in
theorem walk_Positions (s : ByteArray) (at0 : Int) (w : World) :
    Calls Try.prog 3 #[.string s, .int .i64 at0] w fun e w' => e = .returned (.bool true) ∧ Below w.heap.size w w' := by
  by_cases hl : 400 < s.size
  · have hl1 : decide (400 < s.size) = true := decide_eq_true hl
    have HL := Lib.hid hl1
    clear hl hl1
    go_enter Try.func3, Try.ntmps3
    go_wp2_with (go_at_call 13; refine (long1 s w true HL.out).mono ?_; rintro e w' ⟨rfl, rfl⟩)
    go_ret
    exact ⟨rfl, b0 _ _⟩
  · have hl1 : decide (400 < s.size) = false := decide_eq_false hl
    have HL := Lib.hid hl1
    have hs : s.size ≤ 1000000 := by omega
    have hs2 : s.size ≤ 140737488351232 := by omega
    clear hl hl1
    go_enter Try.func3, Try.ntmps3
    go_wp2_with (go_at_call 13; refine (long1 s w false HL.out).mono ?_; rintro e w' ⟨rfl, rfl⟩)
    go_loopw [5] (fun i wr => ∃ j : Int, -1 ≤ j ∧ j ≤ (s.size : Int) + 2 ∧ i = .int .i64 j ∧ Below w.heap.size w wr) (fun i _ => ((s.size : Int) + 2 - intOf i).toNat)
    case atStart => exact ⟨-1, by omega, by omega, rfl, b0 _ _⟩
    case round =>
      obtain ⟨j, hj0, hj1, rfl, hbe⟩ := hrel
      by_cases hj : j ≤ (s.size : Int) + 1
      · go_wp2_with (first | (go_at_call 14; refine (Position_any s j hs2 _).mono ?_; rintro e w' ⟨rfl, hb1⟩; unfold posV) | (go_at_call 15; refine (RPosition_any s j hs _).mono ?_; rintro e w' ⟨rfl, hb2⟩; unfold posV))
        go_roundw
        case rel => exact ⟨j + 1, by omega, by omega, rfl, bchain hbe (bchain hb1 hb2)⟩
        case measure => simp [intOf]; omega
      · go_wp2_with (first | (go_at_call 14; refine (Position_any s at0 hs2 _).mono ?_; rintro e w' ⟨rfl, hb1⟩; unfold posV) | (go_at_call 15; refine (RPosition_any s at0 hs _).mono ?_; rintro e w' ⟨rfl, hb2⟩; unfold posV) | (go_at_call 16; refine (awake_any _).mono ?_; rintro e w' ⟨rfl, hb3⟩))
        go_ret
        exact ⟨rfl, bchain (bchain (bchain hbe hb1) hb2) hb3⟩
end Go.Proofs.Ytaaegelefknkeaa
