/- The walk of the law CodepointJoins. -/
import Derived.Test.YtaaegelefknkeaaCpU
import Derived.Test.YtaaegelefknkeaaLnk
namespace Go.Proofs.Ytaaegelefknkeaa
open Go.RowKit Go.Shelf
set_option linter.unusedSimpArgs false

theorem joinsF (a b : ByteArray) (ha : a.size ≤ 400) (hb : b.size ≤ 400) (va : validF a = true) (vb : validF b = true) : ∃ (FA FB RA RB : ByteArray) (m n : Nat), m ≤ 400 ∧ n ≤ 400 ∧ (FA.size ≤ 1600 ∧ FB.size ≤ 1600 ∧ RA.size ≤ 1600 ∧ RB.size ≤ 1600) ∧
    (∀ w, Calls Try.prog 23 #[.string (a ++ b)] w fun e w' => e = .returned (.bool true) ∧ Below w.heap.size w w') ∧
    (∀ w, Calls Try.prog 22 #[.string (a ++ b)] w fun e w' => e = .returned (.int .i64 ((m : Int) + n)) ∧ Below w.heap.size w w') ∧
    (∀ w, Calls Try.prog 22 #[.string a] w fun e w' => e = .returned (.int .i64 m) ∧ Below w.heap.size w w') ∧
    (∀ w, Calls Try.prog 22 #[.string b] w fun e w' => e = .returned (.int .i64 n) ∧ Below w.heap.size w w') ∧
    (∀ w, Calls Try.prog 17 #[.string (a ++ b)] w fun e w' => e = .returned (.string (RB ++ RA)) ∧ Below w.heap.size w w') ∧
    (∀ w, Calls Try.prog 17 #[.string b] w fun e w' => e = .returned (.string RB) ∧ Below w.heap.size w w') ∧
    (∀ w, Calls Try.prog 17 #[.string a] w fun e w' => e = .returned (.string RA) ∧ Below w.heap.size w w') ∧
    (∀ w, Calls Try.prog 25 #[.string (a ++ b)] w fun e w' => e = .returned (.string (FA ++ FB)) ∧ Below w.heap.size w w') ∧
    (∀ w, Calls Try.prog 25 #[.string a] w fun e w' => e = .returned (.string FA) ∧ Below w.heap.size w w') ∧
    (∀ w, Calls Try.prog 25 #[.string b] w fun e w' => e = .returned (.string FB) ∧ Below w.heap.size w w') ∧
    (∀ w, Calls Try.prog 17 #[.string RA] w fun e w' => e = .returned (.string a) ∧ Below w.heap.size w w') := by
  have hab : (a ++ b).size ≤ 800 := by rw [ByteArray.size_append]; omega
  have ka := unitsFrom_len a a.size 0
  have kb := unitsFrom_len b b.size 0
  have hr := rev_size a
  have hr2 := rev_size b
  have hfa : (foldF a).size ≤ 4 * (unitsOf a).length := foldL_size a (unitsOf a) (fun _ h => (goodU h).w4)
  have hfb : (foldF b).size ≤ 4 * (unitsOf b).length := foldL_size b (unitsOf b) (fun _ h => (goodU h).w4)
  unfold unitsOf at hr hr2 hfa hfb
  refine ⟨foldF a, foldF b, revF a, revF b, (unitsOf a).length, (unitsOf b).length, by unfold unitsOf; omega, by unfold unitsOf; omega, ⟨by omega, by omega, by omega, by omega⟩, fun w => ?_, fun w => ?_, fun w => ?_, fun w => ?_, fun w => ?_, fun w => ?_, fun w => ?_, fun w => ?_, fun w => ?_, fun w => ?_, fun w => ?_⟩
  · have := Valid_any (a ++ b) (by omega) w
    rw [join_valid va vb] at this
    exact this
  · have := Count_any (a ++ b) w (by omega)
    rw [join_len vb, Int.natCast_add] at this
    exact this
  · exact Count_any a w (by omega)
  · exact Count_any b w (by omega)
  · have := Reverse_any (a ++ b) (by omega) w
    rw [join_rev vb] at this
    exact this
  · exact Reverse_any b (by omega) w
  · exact Reverse_any a (by omega) w
  · have := Fold_any (a ++ b) (by omega) w
    rw [join_fold vb] at this
    exact this
  · exact Fold_any a (by omega) w
  · exact Fold_any b (by omega) w
  · have := Reverse_any (revF a) (by omega) w
    rw [rev_rev va] at this
    exact this

set_option maxHeartbeats 4000000 in
theorem walk_Joins (a b : ByteArray) (w : World) :
    Calls Try.prog 11 #[.string a, .string b] w fun e w' => e = .returned (.bool true) ∧ Below w.heap.size w w' := by
  by_cases hl : 400 < a.size ∨ 400 < b.size
  · have hl1 : (decide (400 < a.size) || decide (400 < b.size)) = true := by simpa using hl
    have HL := Lib.hid hl1
    clear hl hl1
    go_enter Try.func11, Try.ntmps11
    go_wp2_with (go_at_call 13; refine (long2 a b w true HL.out).mono ?_; rintro e w' ⟨rfl, rfl⟩)
    go_ret
    exact ⟨rfl, b0 _ _⟩
  · have hl1 : (decide (400 < a.size) || decide (400 < b.size)) = false := by simp; omega
    have HL := Lib.hid hl1
    have ha : a.size ≤ 1000000 := by omega
    have hb : b.size ≤ 1000000 := by omega
    have HA : ∀ w, Calls Try.prog 24 #[.string a] w fun e w' => e = .returned (.bool (validF a)) ∧ Below w.heap.size w w' := RValid_any a ha
    have HB : ∀ w, Calls Try.prog 24 #[.string b] w fun e w' => e = .returned (.bool (validF b)) ∧ Below w.heap.size w w' := RValid_any b hb
    cases va : validF a with
    | false =>
      rw [va] at HA
      have HA' := Lib.hid HA
      clear hl hl1 va HA HB
      go_enter Try.func11, Try.ntmps11
      go_wp2_with (first | (go_at_call 13; refine (long2 a b w false HL.out).mono ?_; rintro e w' ⟨rfl, rfl⟩) | (go_at_call 24; with_reducible refine (HA'.out _).mono ?_; rintro e w' ⟨rfl, hb1⟩))
      go_ret
      exact ⟨rfl, bchain (b0 _ _) hb1⟩
    | true =>
      cases vb : validF b with
      | false =>
        rw [va] at HA
        rw [vb] at HB
        have HA' := Lib.hid HA
        have HB' := Lib.hid HB
        clear hl hl1 va vb HA HB
        go_enter Try.func11, Try.ntmps11
        go_wp2_with (first | (go_at_call 13; refine (long2 a b w false HL.out).mono ?_; rintro e w' ⟨rfl, rfl⟩) | (go_at_call 24; with_reducible refine (HA'.out _).mono ?_; rintro e w' ⟨rfl, hb1⟩) | (go_at_call 24; with_reducible refine (HB'.out _).mono ?_; rintro e w' ⟨rfl, hb2⟩))
        go_ret
        exact ⟨rfl, bchain (bchain (b0 _ _) hb1) hb2⟩
      | true =>
        obtain ⟨FA, FB, RA, RB, m, n, hm, hn, ⟨hs1, hs2, hs3, hs4⟩, v1, c1, c2, c3, r1, r2, r3, f1, f2, f3, r4⟩ := joinsF a b (by omega) (by omega) va vb
        rw [va] at HA
        rw [vb] at HB
        have HA' := Lib.hid HA
        have HB' := Lib.hid HB
        have V1 := Lib.hid v1
        have C1 := Lib.hid c1
        have C2 := Lib.hid c2
        have C3 := Lib.hid c3
        have R1 := Lib.hid r1
        have R2 := Lib.hid r2
        have R3 := Lib.hid r3
        have R4 := Lib.hid r4
        have F1 := Lib.hid f1
        have F2 := Lib.hid f2
        have F3 := Lib.hid f3
        clear hl hl1 va vb HA HB v1 c1 c2 c3 r1 r2 r3 r4 f1 f2 f3
        go_enter Try.func11, Try.ntmps11
        go_wp2_with (first | (go_at_call 13; refine (long2 a b w false HL.out).mono ?_; rintro e w' ⟨rfl, rfl⟩; have HBc := b0 w (.cells #[.string a, .string b] 9)) | (go_at_call 24; with_reducible refine (HA'.out _).mono ?_; rintro e w' ⟨rfl, hb⟩; replace HBc := bchain HBc hb; clear hb) | (go_at_call 24; with_reducible refine (HB'.out _).mono ?_; rintro e w' ⟨rfl, hb⟩; replace HBc := bchain HBc hb; clear hb) | (go_at_call 23; with_reducible refine (V1.out _).mono ?_; rintro e w' ⟨rfl, hb⟩; replace HBc := bchain HBc hb; clear hb) | (go_at_call 22; with_reducible refine (C1.out _).mono ?_; rintro e w' ⟨rfl, hb⟩; replace HBc := bchain HBc hb; clear hb) | (go_at_call 22; with_reducible refine (C2.out _).mono ?_; rintro e w' ⟨rfl, hb⟩; replace HBc := bchain HBc hb; clear hb) | (go_at_call 22; with_reducible refine (C3.out _).mono ?_; rintro e w' ⟨rfl, hb⟩; replace HBc := bchain HBc hb; clear hb) | (go_at_call 17; with_reducible refine (R1.out _).mono ?_; rintro e w' ⟨rfl, hb⟩; replace HBc := bchain HBc hb; clear hb) | (go_at_call 17; with_reducible refine (R2.out _).mono ?_; rintro e w' ⟨rfl, hb⟩; replace HBc := bchain HBc hb; clear hb) | (go_at_call 17; with_reducible refine (R3.out _).mono ?_; rintro e w' ⟨rfl, hb⟩; replace HBc := bchain HBc hb; clear hb) | (go_at_call 17; with_reducible refine (R4.out _).mono ?_; rintro e w' ⟨rfl, hb⟩; replace HBc := bchain HBc hb; clear hb) | (go_at_call 25; with_reducible refine (F1.out _).mono ?_; rintro e w' ⟨rfl, hb⟩; replace HBc := bchain HBc hb; clear hb) | (go_at_call 25; with_reducible refine (F2.out _).mono ?_; rintro e w' ⟨rfl, hb⟩; replace HBc := bchain HBc hb; clear hb) | (go_at_call 25; with_reducible refine (F3.out _).mono ?_; rintro e w' ⟨rfl, hb⟩; replace HBc := bchain HBc hb; clear hb) | (go_at_call 16; refine (awake_any _).mono ?_; rintro e w' ⟨rfl, hb⟩; replace HBc := bchain HBc hb; clear hb))
        go_ret
        exact ⟨rfl, HBc⟩
end Go.Proofs.Ytaaegelefknkeaa
