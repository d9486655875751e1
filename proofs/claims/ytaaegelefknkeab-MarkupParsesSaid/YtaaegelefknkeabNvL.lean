/- The reference's ParseTag, and the law MarkupParses, walked. -/
import Derived.Test.YtaaegelefknkeabNvH
import Derived.Test.YtaaegelefknkeabNvK
import Derived.Test.YtaaegelefknkeabNvC
namespace Go.Proofs.Ytaaegelefknkeab
open Go.RowKit Go.Shelf
set_option linter.unusedSimpArgs false
set_option linter.unusedVariables false

theorem RParseTag_any (s : ByteArray) (hs : s.size ≤ 1000000) (w : World) :
    Calls Try.prog 24 #[.string s] w fun e w' => PtPost w.heap.size (tagF s) e w' ∧ Below w.heap.size w w' := by
  unfold tagF
  cases h60 : seesF s 0 60 with
  | false => exact RParseTag_no s hs h60 w
  | true =>
    rw [if_pos rfl]
    cases h47 : seesF s 1 47 with
    | true =>
      rw [if_pos rfl]
      cases hn : nameF s 2 with
      | error q => exact RParseTag_nameErr_c s hs h60 h47 q.1 q.2 hn w
      | ok b =>
        dsimp only
        unfold keysC
        rw [if_pos rfl, endF]
        cases h62 : seesF s b 62 with
        | false => exact RParseTag_close_no s hs h60 h47 b hn h62 w
        | true =>
          rw [if_pos rfl]
          by_cases hend : b + 1 < s.size
          · rw [if_pos hend]
            exact RParseTag_close_long s hs h60 h47 b hn h62 hend w
          · rw [if_neg hend]
            exact RParseTag_close_good s hs h60 h47 b hn h62 hend w
    | false =>
      simp only [Bool.false_eq_true, if_false]
      by_cases h1z : 1 < s.size
      · cases hn : nameF s 1 with
        | error q => exact RParseTag_nameErr_a s hs h60 h47 h1z q.1 q.2 hn w
        | ok b =>
          dsimp only
          unfold keysC
          simp only [Bool.false_eq_true, if_false]
          exact RParseTag_open_a s hs h60 h47 h1z b hn w
      · have hn : nameF s 1 = .error (1, 3) := by unfold nameF; rw [dif_neg h1z]
        rw [hn]
        exact RParseTag_nameErr_b s hs h60 h47 h1z 1 3 hn w

theorem pparse_err {s : ByteArray} {q : Nat × Int} (hs : s.size ≤ 1000000) (h : tagF s = .error q) (w : World) :
    Calls Try.prog 23 #[.string s] w fun e w' => e = .returned (.tuple #[.agg #[.bool false, .string ⟨#[]⟩, .slice none 0 0], .int .i64 q.1, .int .i64 q.2]) ∧ Below w.heap.size w w' := by
  refine (ParseTag_any s hs w).mono ?_
  rintro e w' ⟨h1, h2⟩
  rw [h] at h1
  exact ⟨h1, h2⟩
theorem rparse_ok {s : ByteArray} {q : Tg} (hs : s.size ≤ 1000000) (h : tagF s = .ok q) (w : World) :
    Calls Try.prog 24 #[.string s] w fun e w' => ∃ v, e = .returned (.tuple #[.agg #[.bool q.1, .string q.2.1, v], .int .i64 0, .int .i64 0]) ∧ OwnsP w' w.heap.size v q.2.2 ∧ Below w.heap.size w w' := by
  refine (RParseTag_any s hs w).mono ?_
  rintro e w' ⟨h1, h2⟩
  rw [h] at h1
  obtain ⟨v, h3, h4⟩ := h1
  exact ⟨v, h3, h4, h2⟩
theorem rparse_err {s : ByteArray} {q : Nat × Int} (hs : s.size ≤ 1000000) (h : tagF s = .error q) (w : World) :
    Calls Try.prog 24 #[.string s] w fun e w' => e = .returned (.tuple #[.agg #[.bool false, .string ⟨#[]⟩, .slice none 0 0], .int .i64 q.1, .int .i64 q.2]) ∧ Below w.heap.size w w' := by
  refine (RParseTag_any s hs w).mono ?_
  rintro e w' ⟨h1, h2⟩
  rw [h] at h1
  exact ⟨h1, h2⟩
theorem nil_rd (W : World) : RdP W (.slice none 0 0) [] none 0 := ⟨rfl, Nat.le_refl _, by decide, fun i p hi => by simp at hi⟩

set_option maxHeartbeats 1000000 in
theorem walk_Parses (s : ByteArray) (w : World) : Calls Try.prog 9 #[.string s] w fun e w' => e = .returned (.bool true) ∧ Below w.heap.size w w' := by
  by_cases h1 : 2000 < s.size
  · have h1' : (2000 : Int) < s.size := by omega
    go_enter Try.func9, Try.ntmps9
    go_wp2
    go_ret
    exact ⟨rfl, Below.refl _ _⟩
  have h1' : ¬ (2000 : Int) < s.size := by omega
  have HA := Lib.hid awake_any
  cases hp : tagF s with
  | error q =>
    obtain ⟨q1, q2⟩ := q
    have HP := Lib.hid hp
    clear hp
    have HEQ := Lib.hid (equal_same false ⟨#[]⟩ [] (.slice none 0 0) (.slice none 0 0) none none 0 0)
    go_enter Try.func9, Try.ntmps9
    go_wp2_with (first | (go_at_call 23; refine (pparse_err (by omega) HP.out _).mono ?_; rintro e w1 ⟨rfl, hb1⟩; have HB1 := Lib.hid hb1; clear hb1) | (go_at_call 24; refine (rparse_err (by omega) HP.out _).mono ?_; rintro e w2 ⟨rfl, hb2⟩; obtain ⟨x0, x1, x2, _, _, _⟩ := tag_of_row ((hb2.block w1.heap.size (by simp)).trans (heap_alloc_new w1 (.cells #[.bool false, .string ⟨#[]⟩, .slice none 0 0] 33))); have hl2 : w1.heap.size < w2.heap.size := (by have := hb2.size; simp at this; omega); have HB2 := Lib.hid hb2; clear hb2) | (go_at_call 25; refine (HEQ.out _ (nil_rd _) (nil_rd _)).mono ?_; rintro e w3 ⟨rfl, hb3⟩; have HB3 := Lib.hid hb3; clear hb3) | (go_at_call 16; refine (HA.out _).mono ?_; rintro e w4 ⟨rfl, hb4⟩; have HB4 := Lib.hid hb4; clear hb4))
    go_ret
    exact ⟨rfl, bchain (bchain (bchain (bchain (bchain (bchain HB1.out (b0 w1 _)) HB2.out) (b0 w2 _)) HB3.out) HB4.out) (Below.refl _ _)⟩
  | ok q =>
    obtain ⟨c, n, l⟩ := q
    have HP := Lib.hid hp
    clear hp
    go_enter Try.func9, Try.ntmps9
    go_wp2_with (first | (go_at_call 23; refine (parse_ok (by omega) HP.out _).mono ?_; rintro e w1 ⟨v1, rfl, hown1, hb1⟩; obtain ⟨o1, c1, rfl⟩ := hown1.lenv; have HO1 := Lib.hid hown1; have HB1 := Lib.hid hb1; clear hb1 hown1) | (go_at_call 24; refine (rparse_ok (by omega) HP.out _).mono ?_; rintro e w2 ⟨v2, rfl, hown2, hb2⟩; obtain ⟨o2, c2, rfl⟩ := hown2.lenv; obtain ⟨x0, x1, x2, _, _, _⟩ := tag_of_row ((hb2.block w1.heap.size (by simp)).trans (heap_alloc_new w1 (.cells #[.bool c, .string n, .slice o1 l.length c1] 33))); have hl2 : w1.heap.size < w2.heap.size := (by have := hb2.size; simp at this; omega); have HO2 := Lib.hid hown2; have HB2 := Lib.hid hb2; clear hb2 hown2))
    obtain ⟨W3, hW3⟩ : ∃ W3, w2.alloc (.cells #[.bool c, .string n, .slice o2 l.length c2] 36) = W3 := ⟨_, rfl⟩
    have hb3 : Below w2.heap.size w2 W3 := by rw [← hW3]; exact b0 w2 _
    obtain ⟨ra, rc, hrd1⟩ := (((HO1.out.below (b0 w1 _)).below HB2.out).below hb3).rd
    obtain ⟨rb, rd, hrd2⟩ := (HO2.out.below hb3).rd
    rw [hW3]
    have HRA := Lib.hid hrd1
    have HRB := Lib.hid hrd2
    have HB3 := Lib.hid hb3
    clear hrd1 hrd2 hb3 hW3 x0 x1 x2
    refine (equal_same c n l _ _ ra rb rc rd W3 HRA.out HRB.out).mono ?_
    rintro e w4 ⟨rfl, hb4⟩
    have HB4 := Lib.hid hb4
    clear hb4
    go_wp2_with (go_at_call 16; refine (HA.out _).mono ?_; rintro e w5 ⟨rfl, hb5⟩; have HB5 := Lib.hid hb5; clear hb5)
    go_ret
    exact ⟨rfl, bchain (bchain (bchain (bchain (bchain (bchain HB1.out (b0 w1 _)) HB2.out) HB3.out) HB4.out) HB5.out) (Below.refl _ _)⟩
end Go.Proofs.Ytaaegelefknkeab
