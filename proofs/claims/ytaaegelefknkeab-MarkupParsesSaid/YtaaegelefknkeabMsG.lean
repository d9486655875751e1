/- ValidName, of the program and of the reference. -/
import Derived.Test.YtaaegelefknkeabMsF
namespace Go.Proofs.Ytaaegelefknkeab
open Go.RowKit Go.Shelf
set_option linter.unusedSimpArgs false

/-- s is a name. -/
def vnF (s : ByteArray) : Bool := if h : 0 < s.size then (decide (s.size ≤ 32) && begF ((s[0]'h).toNat : Int) && decide (nameTo s s.size 0 = s.size)) else false
theorem onF_of {n : Int} (h : begF n = true) : onF n = true := by unfold onF; rw [h]; rfl
theorem nameTo_fuel (s : ByteArray) : ∀ f g a, s.size ≤ a + f → s.size ≤ a + g → nameTo s f a = nameTo s g a := by
  intro f
  induction f with
  | zero => intro g a h _; rw [nameTo_end s g a (by omega)]; rfl
  | succ f ih =>
    intro g a h hg
    by_cases ha : a < s.size
    · obtain ⟨g, rfl⟩ : ∃ k, g = k + 1 := ⟨g - 1, by omega⟩
      rw [nameTo, nameTo, dif_pos ha, dif_pos ha, ih g (a + 1) (by omega) (by omega)]
    · rw [nameTo_end s _ _ ha, nameTo_end s _ _ ha]

set_option maxHeartbeats 4000000 in
theorem ValidName_any (s : ByteArray) (hs : s.size ≤ 140737488351232) (w : World) :
    Calls Try.prog 14 #[.string s] w fun e w' => e = .returned (.bool (vnF s)) ∧ w = w' := by
  unfold vnF
  by_cases h0 : 0 < s.size
  · rw [dif_pos h0]
    have h0' : ¬ (s.size : Int) < 1 := by omega
    by_cases h32 : s.size ≤ 32
    · have h32' : ¬ (32 : Int) < s.size := by omega
      rw [decide_eq_true h32, Bool.true_and]
      have HB := Lib.hid (begins_any ((s[0]'h0).toNat : Int))
      cases hb : begF ((s[0]'h0).toNat : Int) with
      | false =>
        rw [hb] at HB
        clear hb
        rw [Bool.false_and]
        go_enter Try.func14, Try.ntmps14
        go_wp2_with (go_at_call 32; refine (HB.out _).mono ?_; rintro e w1 ⟨rfl, rfl⟩)
        go_ret
        exact ⟨rfl, rfl⟩
      | true =>
        rw [hb] at HB
        rw [Bool.true_and]
        obtain ⟨E, hE⟩ : ∃ E, E = nameTo s s.size 0 := ⟨_, rfl⟩
        have hE1 : E = nameTo s s.size 1 := by
          rw [hE]
          obtain ⟨g, hg⟩ : ∃ g, s.size = g + 1 := ⟨s.size - 1, by omega⟩
          rw [hg, nameTo, dif_pos h0, if_pos (onF_of hb)]
          exact nameTo_fuel s _ _ _ (by omega) (by omega)
        rw [← hE]
        obtain ⟨r, hr⟩ : ∃ r, r = decide (E = s.size) := ⟨_, rfl⟩
        rw [← hr]
        have HE := Lib.hid hE
        have HE1 := Lib.hid hE1
        have HR := Lib.hid hr
        clear hE hE1 hr hb
        go_enter Try.func14, Try.ntmps14
        go_wp2_with (go_at_call 32; refine (HB.out _).mono ?_; rintro e w1 ⟨rfl, rfl⟩)
        go_loopw [20] (fun i wr => ∃ k f : Nat, i = .int .i64 k ∧ k ≤ s.size ∧ s.size ≤ k + f ∧ nameTo s f k = E ∧ wr = w) (fun i _ => s.size - (intOf i).toNat)
        case atStart => exact ⟨0, s.size, rfl, by omega, by omega, HE.out.symm, rfl⟩
        case round =>
          obtain ⟨k, f, rfl, hk, hf, hn, rfl⟩ := hrel
          by_cases hk1 : k < s.size
          · have hk1' : (k : Int) < s.size := by omega
            obtain ⟨f, rfl⟩ : ∃ g, f = g + 1 := ⟨f - 1, by omega⟩
            rw [nameTo, dif_pos hk1] at hn
            have HO := Lib.hid (goesOn_any ((s[k]'hk1).toNat : Int))
            cases ho : onF ((s[k]'hk1).toNat : Int) with
            | true =>
              rw [ho] at HO
              rw [ho, if_pos rfl] at hn
              have HN := Lib.hid hn
              clear ho hn
              go_wp2_with (go_at_call 33; refine (HO.out _).mono ?_; rintro e w1 ⟨rfl, rfl⟩)
              go_roundw
              case rel => exact ⟨k + 1, f, by go_num, by omega, by omega, HN.out, by first | trivial | rfl⟩
              case measure => simp [intOf]; omega
            | false =>
              rw [ho] at HO
              rw [ho, if_neg (by simp)] at hn
              have HN := Lib.hid hn
              clear ho hn
              go_wp2_with (go_at_call 33; refine (HO.out _).mono ?_; rintro e w1 ⟨rfl, rfl⟩)
              go_ret
              exact ⟨ret_bool (by rw [HR.out]; exact (decide_eq_false (by have := HN.out; omega)).symm), rfl⟩
          · have hk1' : ¬ (k : Int) < s.size := by omega
            rw [nameTo_end s f k hk1] at hn
            have HN := Lib.hid hn
            clear hn
            go_wp2
            go_ret
            exact ⟨ret_bool (by rw [HR.out]; exact (decide_eq_true (by have := HN.out; omega)).symm), rfl⟩
    · have h32' : (32 : Int) < s.size := by omega
      rw [decide_eq_false h32, Bool.false_and, Bool.false_and]
      go_enter Try.func14, Try.ntmps14
      go_wp2
      go_ret
      exact ⟨rfl, rfl⟩
  · rw [dif_neg h0]
    have h0' : (s.size : Int) < 1 := by omega
    go_enter Try.func14, Try.ntmps14
    go_wp2
    go_ret
    exact ⟨rfl, rfl⟩

set_option maxHeartbeats 4000000 in
theorem RValidName_any (s : ByteArray) (hs : s.size ≤ 140737488351232) (w : World) :
    Calls Try.prog 15 #[.string s] w fun e w' => e = .returned (.bool (vnF s)) ∧ w = w' := by
  unfold vnF
  by_cases h0 : 0 < s.size
  · rw [dif_pos h0]
    have h0' : ¬ (s.size : Int) < 1 := by omega
    by_cases h32 : s.size ≤ 32
    · have h32' : ¬ (32 : Int) < s.size := by omega
      rw [decide_eq_true h32, Bool.true_and]
      have HB := Lib.hid (First_any ((s[0]'h0).toNat : Int))
      cases hb : begF ((s[0]'h0).toNat : Int) with
      | false =>
        rw [hb] at HB
        clear hb
        rw [Bool.false_and]
        go_enter Try.func15, Try.ntmps15
        go_wp2_with (go_at_call 34; refine (HB.out _).mono ?_; rintro e w1 ⟨rfl, rfl⟩)
        go_ret
        exact ⟨rfl, rfl⟩
      | true =>
        rw [hb] at HB
        rw [Bool.true_and]
        obtain ⟨E, hE⟩ : ∃ E, E = nameTo s s.size 0 := ⟨_, rfl⟩
        have hE1 : E = nameTo s s.size 1 := by
          rw [hE]
          obtain ⟨g, hg⟩ : ∃ g, s.size = g + 1 := ⟨s.size - 1, by omega⟩
          rw [hg, nameTo, dif_pos h0, if_pos (onF_of hb)]
          exact nameTo_fuel s _ _ _ (by omega) (by omega)
        rw [← hE]
        obtain ⟨r, hr⟩ : ∃ r, r = decide (E = s.size) := ⟨_, rfl⟩
        rw [← hr]
        have HE := Lib.hid hE
        have HE1 := Lib.hid hE1
        have HR := Lib.hid hr
        clear hE hE1 hr hb
        go_enter Try.func15, Try.ntmps15
        go_wp2_with (go_at_call 34; refine (HB.out _).mono ?_; rintro e w1 ⟨rfl, rfl⟩)
        go_loopw [3] (fun i wr => ∃ k f : Nat, i = .int .i64 k ∧ k ≤ s.size ∧ s.size ≤ k + f ∧ nameTo s f k = E ∧ wr = w) (fun i _ => s.size - (intOf i).toNat)
        case atStart => exact ⟨1, s.size, rfl, by omega, by omega, HE1.out.symm, rfl⟩
        case round =>
          obtain ⟨k, f, rfl, hk, hf, hn, rfl⟩ := hrel
          by_cases hk1 : k < s.size
          · have hk1' : (k : Int) < s.size := by omega
            obtain ⟨f, rfl⟩ : ∃ g, f = g + 1 := ⟨f - 1, by omega⟩
            rw [nameTo, dif_pos hk1] at hn
            have HO := Lib.hid (Next_any ((s[k]'hk1).toNat : Int))
            cases ho : onF ((s[k]'hk1).toNat : Int) with
            | true =>
              rw [ho] at HO
              rw [ho, if_pos rfl] at hn
              have HN := Lib.hid hn
              clear ho hn
              go_wp2_with (go_at_call 35; refine (HO.out _).mono ?_; rintro e w1 ⟨rfl, rfl⟩)
              go_roundw
              case rel => exact ⟨k + 1, f, by go_num, by omega, by omega, HN.out, by first | trivial | rfl⟩
              case measure => simp [intOf]; omega
            | false =>
              rw [ho] at HO
              rw [ho, if_neg (by simp)] at hn
              have HN := Lib.hid hn
              clear ho hn
              go_wp2_with (go_at_call 35; refine (HO.out _).mono ?_; rintro e w1 ⟨rfl, rfl⟩)
              go_ret
              exact ⟨ret_bool (by rw [HR.out]; exact (decide_eq_false (by have := HN.out; omega)).symm), rfl⟩
          · have hk1' : ¬ (k : Int) < s.size := by omega
            rw [nameTo_end s f k hk1] at hn
            have HN := Lib.hid hn
            clear hn
            go_wp2
            go_ret
            exact ⟨ret_bool (by rw [HR.out]; exact (decide_eq_true (by have := HN.out; omega)).symm), rfl⟩
    · have h32' : (32 : Int) < s.size := by omega
      rw [decide_eq_false h32, Bool.false_and, Bool.false_and]
      go_enter Try.func15, Try.ntmps15
      go_wp2
      go_ret
      exact ⟨rfl, rfl⟩
  · rw [dif_neg h0]
    have h0' : (s.size : Int) < 1 := by omega
    go_enter Try.func15, Try.ntmps15
    go_wp2
    go_ret
    exact ⟨rfl, rfl⟩
end Go.Proofs.Ytaaegelefknkeab
