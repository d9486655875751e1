/- The walks of the laws CodepointValid and CodepointSettles. -/
import Derived.Test.YtaaegelefknkeaaCpU
import Derived.Test.YtaaegelefknkeaaLnk
namespace Go.Proofs.Ytaaegelefknkeaa
open Go.RowKit Go.Shelf
set_option linter.unusedSimpArgs false

set_option maxHeartbeats 4000000 in
theorem walk_Valid (s : ByteArray) (i : Int) (w : World) :
    Calls Try.prog 7 #[.string s, .int .i64 i] w fun e w' => e = .returned (.bool true) ∧ Below w.heap.size w w' := by
  by_cases hl : 400 < s.size
  · have hl1 : decide (400 < s.size) = true := decide_eq_true hl
    have HL := Lib.hid hl1
    clear hl hl1
    go_enter Try.func7, Try.ntmps7
    go_wp2_with (go_at_call 13; refine (long1 s w true HL.out).mono ?_; rintro e w' ⟨rfl, rfl⟩)
    go_ret
    exact ⟨rfl, b0 _ _⟩
  · have hl1 : decide (400 < s.size) = false := decide_eq_false hl
    have HL := Lib.hid hl1
    have hs : s.size ≤ 1000000 := by omega
    have hs2 : s.size ≤ 140737488351232 := by omega
    obtain ⟨v, hv⟩ : ∃ v, v = validF s := ⟨_, rfl⟩
    have HV := Lib.hid hv
    cases ho : atF (unitsOf s) i with
    | none =>
      have HO := Lib.hid ho
      clear hl hl1 hv ho
      go_enter Try.func7, Try.ntmps7
      go_wp2_with (first | (go_at_call 13; refine (long1 s w false HL.out).mono ?_; rintro e w' ⟨rfl, rfl⟩) | (go_at_call 23; with_reducible refine (Valid_any s hs2 _).mono ?_; rintro e w' ⟨rfl, hb1⟩; rw [← HV.out]) | (go_at_call 21; refine (RAt_any s i hs _).mono ?_; rintro e w' ⟨rfl, hb2⟩; rw [HO.out, atV]) | (go_at_call 24; refine (RValid_any s hs _).mono ?_; rintro e w' ⟨rfl, hb3⟩; rw [← HV.out]) | (go_at_call 16; refine (awake_any _).mono ?_; rintro e w' ⟨rfl, hb4⟩))
      go_ret
      exact ⟨rfl, bchain (bchain (bchain (bchain (b0 _ _) hb1) hb2) hb3) hb4⟩
    | some u =>
      have hu : u ∈ unitsOf s := by
        unfold atF at ho
        split at ho
        · exact List.mem_of_getElem? ho
        · cases ho
      have hg := (goodU hu).fit
      obtain ⟨r, k, z⟩ := u
      have hk : k ≤ s.size := by have : k + z ≤ s.size := hg; omega
      have HO := Lib.hid ho
      obtain ⟨q, hq⟩ : ∃ q, q = s.extract 0 k := ⟨_, rfl⟩
      have hq2 : q.size ≤ 140737488351232 := by rw [hq, ByteArray.size_extract]; omega
      have ht2 : (s.extract k s.size).size ≤ 140737488351232 := by rw [ByteArray.size_extract]; omega
      cases hvq : validF q with
      | false =>
        have HQ := Lib.hid hq
        have HVQ := Lib.hid hvq
        clear hl hl1 hv ho hg hu hq hvq
        go_enter Try.func7, Try.ntmps7
        go_wp2_with (first | (go_at_call 13; refine (long1 s w false HL.out).mono ?_; rintro e w' ⟨rfl, rfl⟩) | (go_at_call 23; with_reducible refine (Valid_any s hs2 _).mono ?_; rintro e w' ⟨rfl, hb1⟩; rw [← HV.out]) | (go_at_call 21; refine (RAt_any s i hs _).mono ?_; rintro e w' ⟨rfl, hb2⟩; rw [HO.out, atV]) | (go_at_call 23; rw [← HQ.out]; with_reducible refine (Valid_any q hq2 _).mono ?_; rintro e w' ⟨rfl, hb3⟩; rw [HVQ.out]) | (go_at_call 24; refine (RValid_any s hs _).mono ?_; rintro e w' ⟨rfl, hb4⟩; rw [← HV.out]) | (go_at_call 16; refine (awake_any _).mono ?_; rintro e w' ⟨rfl, hb5⟩))
        go_ret
        exact ⟨rfl, bchain (bchain (bchain (bchain (bchain (b0 _ _) hb1) hb2) hb3) hb4) hb5⟩
      | true =>
        have hr : validF (s.extract k s.size) = v := by rw [hv]; exact valid_rest (by rw [← hq]; exact hvq)
        have HQ := Lib.hid hq
        have HVQ := Lib.hid hvq
        have HR := Lib.hid hr
        clear hl hl1 hv ho hg hu hq hvq hr
        go_enter Try.func7, Try.ntmps7
        go_wp2_with (first | (go_at_call 13; refine (long1 s w false HL.out).mono ?_; rintro e w' ⟨rfl, rfl⟩) | (go_at_call 23; with_reducible refine (Valid_any s hs2 _).mono ?_; rintro e w' ⟨rfl, hb1⟩; rw [← HV.out]) | (go_at_call 21; refine (RAt_any s i hs _).mono ?_; rintro e w' ⟨rfl, hb2⟩; rw [HO.out, atV]) | (go_at_call 23; rw [← HQ.out]; with_reducible refine (Valid_any q hq2 _).mono ?_; rintro e w' ⟨rfl, hb3⟩; rw [HVQ.out]) | (go_at_call 23; with_reducible refine (Valid_any _ ht2 _).mono ?_; rintro e w' ⟨rfl, hb6⟩; rw [HR.out]) | (go_at_call 24; refine (RValid_any s hs _).mono ?_; rintro e w' ⟨rfl, hb4⟩; rw [← HV.out]) | (go_at_call 16; refine (awake_any _).mono ?_; rintro e w' ⟨rfl, hb5⟩))
        go_ret
        exact ⟨rfl, bchain (bchain (bchain (bchain (bchain (bchain (b0 _ _) hb1) hb2) hb3) hb6) hb4) hb5⟩

theorem settle (s : ByteArray) (hs : s.size ≤ 400) : ∃ (F : ByteArray) (n : Nat) (v : Bool),
    (∀ w, Calls Try.prog 25 #[.string s] w fun e w' => e = .returned (.string F) ∧ Below w.heap.size w w') ∧
    (∀ w, Calls Try.prog 25 #[.string F] w fun e w' => e = .returned (.string F) ∧ Below w.heap.size w w') ∧
    (∀ w, Calls Try.prog 22 #[.string F] w fun e w' => e = .returned (.int .i64 n) ∧ Below w.heap.size w w') ∧
    (∀ w, Calls Try.prog 22 #[.string s] w fun e w' => e = .returned (.int .i64 n) ∧ Below w.heap.size w w') ∧
    (∀ w, Calls Try.prog 23 #[.string F] w fun e w' => e = .returned (.bool v) ∧ Below w.heap.size w w') ∧
    (∀ w, Calls Try.prog 23 #[.string s] w fun e w' => e = .returned (.bool v) ∧ Below w.heap.size w w') := by
  have hF : (foldF s).size ≤ 1600 := by
    have h1 := foldL_size s (unitsOf s) (fun _ h => (goodU h).w4)
    have h2 := unitsFrom_len s s.size 0
    show (foldL s (unitsOf s)).size ≤ 1600
    unfold unitsOf at *
    omega
  refine ⟨foldF s, (unitsOf s).length, validF s, fun w => ?_, fun w => ?_, fun w => ?_, fun w => ?_, fun w => ?_, fun w => ?_⟩
  · exact Fold_any s (by omega) w
  · have := Fold_any (foldF s) (by omega) w
    rw [fold_fold] at this
    exact this
  · have := Count_any (foldF s) w (by omega)
    rw [fold_len] at this
    exact this
  · exact Count_any s w (by omega)
  · have := Valid_any (foldF s) (by omega) w
    rw [fold_valid] at this
    exact this
  · exact Valid_any s (by omega) w

set_option maxHeartbeats 4000000 in
theorem walk_Settles (s : ByteArray) (w : World) :
    Calls Try.prog 10 #[.string s] w fun e w' => e = .returned (.bool true) ∧ Below w.heap.size w w' := by
  by_cases hl : 400 < s.size
  · have hl1 : decide (400 < s.size) = true := decide_eq_true hl
    have HL := Lib.hid hl1
    clear hl hl1
    go_enter Try.func10, Try.ntmps10
    go_wp2_with (go_at_call 13; refine (long1 s w true HL.out).mono ?_; rintro e w' ⟨rfl, rfl⟩)
    go_ret
    exact ⟨rfl, b0 _ _⟩
  · have hl1 : decide (400 < s.size) = false := decide_eq_false hl
    have HL := Lib.hid hl1
    obtain ⟨F, n, v, f1, f2, c1, c2, v1, v2⟩ := settle s (by omega)
    have F1 := Lib.hid f1
    have F2 := Lib.hid f2
    have C1 := Lib.hid c1
    have C2 := Lib.hid c2
    have V1 := Lib.hid v1
    have V2 := Lib.hid v2
    clear hl hl1 f1 f2 c1 c2 v1 v2
    go_enter Try.func10, Try.ntmps10
    go_wp2_with (first | (go_at_call 13; refine (long1 s w false HL.out).mono ?_; rintro e w' ⟨rfl, rfl⟩) | (go_at_call 25; with_reducible refine (F1.out _).mono ?_; rintro e w' ⟨rfl, hb1⟩) | (go_at_call 25; with_reducible refine (F2.out _).mono ?_; rintro e w' ⟨rfl, hb2⟩) | (go_at_call 22; with_reducible refine (C1.out _).mono ?_; rintro e w' ⟨rfl, hb3⟩) | (go_at_call 22; with_reducible refine (C2.out _).mono ?_; rintro e w' ⟨rfl, hb4⟩) | (go_at_call 23; with_reducible refine (V1.out _).mono ?_; rintro e w' ⟨rfl, hb5⟩) | (go_at_call 23; with_reducible refine (V2.out _).mono ?_; rintro e w' ⟨rfl, hb6⟩) | (go_at_call 16; refine (awake_any _).mono ?_; rintro e w' ⟨rfl, hb7⟩))
    go_ret
    exact ⟨rfl, bchain (bchain (bchain (bchain (bchain (bchain (bchain (b0 _ _) hb1) hb2) hb3) hb4) hb5) hb6) hb7⟩
end Go.Proofs.Ytaaegelefknkeaa
