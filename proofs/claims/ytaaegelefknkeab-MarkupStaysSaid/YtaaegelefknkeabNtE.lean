/- The law MarkupStays, walked. -/
import Derived.Test.YtaaegelefknkeabNtD
namespace Go.Proofs.Ytaaegelefknkeab
open Go.RowKit Go.Shelf
set_option linter.unusedSimpArgs false
set_option linter.unusedVariables false

theorem parse_err {s : ByteArray} {q : Nat × Int} (hs : s.size ≤ 1000000) (h : tagF s = .error q) (w : World) :
    Calls Try.prog 23 #[.string s] w fun e w' => e = .returned (.tuple #[.agg #[.bool false, .string ⟨#[]⟩, .slice none 0 0], .int .i64 q.1, .int .i64 q.2]) ∧ Below w.heap.size w w' := by
  refine (ParseTag_any s hs w).mono ?_
  rintro e w' ⟨h1, h2⟩
  rw [h] at h1
  exact ⟨h1, h2⟩

set_option maxHeartbeats 1000000 in
theorem walk_Stays (s t : ByteArray) (w : World) : Calls Try.prog 10 #[.string s, .string t] w fun e w' => e = .returned (.bool true) ∧ Below w.heap.size w w' := by
  by_cases h1 : 1000 < s.size
  · have h1' : (1000 : Int) < s.size := by omega
    go_enter Try.func10, Try.ntmps10
    go_wp2
    go_ret
    exact ⟨rfl, Below.refl _ _⟩
  have h1' : ¬ (1000 : Int) < s.size := by omega
  by_cases h2 : 300 < t.size
  · have h2' : (300 : Int) < t.size := by omega
    go_enter Try.func10, Try.ntmps10
    go_wp2
    go_ret
    exact ⟨rfl, Below.refl _ _⟩
  have h2' : ¬ (300 : Int) < t.size := by omega
  have HA := Lib.hid awake_any
  cases hp : tagF s with
  | ok q =>
    have HP := Lib.hid hp
    clear hp
    go_enter Try.func10, Try.ntmps10
    go_wp2_with (first | (go_at_call 23; refine (parse_ok (by omega) HP.out _).mono ?_; rintro e w1 ⟨v, rfl, hown, hb1⟩; obtain ⟨o5, c5, rfl⟩ := hown.lenv; have HB1 := Lib.hid hb1; clear hb1 hown) | (go_at_call 16; refine (HA.out _).mono ?_; rintro e w2 ⟨rfl, hb2⟩; have HB2 := Lib.hid hb2; clear hb2))
    go_ret
    exact ⟨rfl, bchain (bchain HB1.out (b0 w1 _)) HB2.out⟩
  | error q =>
    obtain ⟨q1, q2⟩ := q
    have HP := Lib.hid hp
    by_cases h0 : q2 = 0
    · have e0 : (q2 == 0) = true := by simp [h0]
      clear hp
      have H0 := Lib.hid h0
      clear h0
      go_enter Try.func10, Try.ntmps10
      go_wp2_with (first | (go_at_call 23; refine (parse_err (by omega) HP.out _).mono ?_; rintro e w1 ⟨rfl, hb1⟩; have HB1 := Lib.hid hb1; clear hb1) | (go_at_call 16; refine (HA.out _).mono ?_; rintro e w2 ⟨rfl, hb2⟩; have HB2 := Lib.hid hb2; clear hb2))
      go_ret
      exact ⟨rfl, bchain (bchain HB1.out (b0 w1 _)) HB2.out⟩
    · have e0 : (q2 == 0) = false := by simp [h0]
      have H0 := Lib.hid h0
      clear h0
      by_cases hlt : q1 < s.size
      · have hlt' : (q1 : Int) < s.size := by omega
        have hT := (Ext.mk' s t).tag hp hlt
        have HT := Lib.hid hT
        clear hT hp
        have hsz : (s ++ ⟨#[62]⟩ ++ t).size ≤ 1000000 := by rw [ByteArray.size_append, ByteArray.size_append]; show _ + 1 + _ ≤ _; omega
        have HSZ := Lib.hid hsz
        clear hsz
        go_enter Try.func10, Try.ntmps10
        go_wp2_with (first | (go_at_call 23; with_reducible refine (parse_err HSZ.out HT.out _).mono ?_; rintro e w2 ⟨rfl, hb2⟩; have HB2 := Lib.hid hb2; clear hb2) | (go_at_call 23; with_reducible refine (parse_err (by omega) HP.out _).mono ?_; rintro e w1 ⟨rfl, hb1⟩; have HB1 := Lib.hid hb1; clear hb1) | (go_at_call 16; refine (HA.out _).mono ?_; rintro e w3 ⟨rfl, hb3⟩; have HB3 := Lib.hid hb3; clear hb3))
        go_ret
        exact ⟨rfl, bchain (bchain (bchain (bchain HB1.out (b0 w1 _)) HB2.out) (b0 w2 _)) HB3.out⟩
      · have hlt' : ¬ (q1 : Int) < s.size := by omega
        clear hp
        go_enter Try.func10, Try.ntmps10
        go_wp2_with (first | (go_at_call 23; refine (parse_err (by omega) HP.out _).mono ?_; rintro e w1 ⟨rfl, hb1⟩; have HB1 := Lib.hid hb1; clear hb1) | (go_at_call 16; refine (HA.out _).mono ?_; rintro e w2 ⟨rfl, hb2⟩; have HB2 := Lib.hid hb2; clear hb2))
        go_ret
        exact ⟨rfl, bchain (bchain HB1.out (b0 w1 _)) HB2.out⟩
end Go.Proofs.Ytaaegelefknkeab
