/- Names: the letters and ValidName, of the program and of the reference. -/
import Derived.Test.YtaaegelefknkeabMkN
namespace Go.Proofs.Ytaaegelefknkeab
open Go.RowKit Go.Shelf
set_option linter.unusedSimpArgs false

/-- The bytes a name may begin with, and those it may go on with. -/
def begF (n : Int) : Bool := decide (65 ≤ n ∧ n ≤ 90) || decide (97 ≤ n ∧ n ≤ 122) || decide (n = 95)
def onF (n : Int) : Bool := begF n || decide (48 ≤ n ∧ n ≤ 57) || decide (n = 45)

set_option maxHeartbeats 4000000 in
theorem begins_any (n : Int) (w : World) : Calls Try.prog 32 #[.int .u8 n] w fun e w' => e = .returned (.bool (begF n)) ∧ w = w' := by
  by_cases h5 : n = 95
  · subst h5
    go_enter Try.func32, Try.ntmps32
    go_wp2
    go_ret
    exact ⟨rfl, rfl⟩
  · have e5 : (n == 95) = false := by simp [h5]
    by_cases h1 : 65 ≤ n <;> by_cases h2 : n ≤ 90 <;> by_cases h3 : 97 ≤ n <;> by_cases h4 : n ≤ 122
    all_goals first
      | (exfalso; omega)
      | (go_enter Try.func32, Try.ntmps32
         go_wp2
         go_ret
         exact ⟨ret_bool (by simp [begF]; omega), rfl⟩)
set_option maxHeartbeats 4000000 in
theorem First_any (n : Int) (w : World) : Calls Try.prog 34 #[.int .u8 n] w fun e w' => e = .returned (.bool (begF n)) ∧ w = w' := by
  by_cases h5 : n = 95
  · subst h5
    go_enter Try.func34, Try.ntmps34
    go_wp2
    go_ret
    exact ⟨rfl, rfl⟩
  · have e5 : (n == 95) = false := by simp [h5]
    by_cases h1 : 65 ≤ n <;> by_cases h2 : n ≤ 90 <;> by_cases h3 : 97 ≤ n <;> by_cases h4 : n ≤ 122
    all_goals first
      | (exfalso; omega)
      | (go_enter Try.func34, Try.ntmps34
         go_wp2
         go_ret
         exact ⟨ret_bool (by simp [begF]; omega), rfl⟩)
set_option maxHeartbeats 4000000 in
theorem goesOn_any (n : Int) (w : World) : Calls Try.prog 33 #[.int .u8 n] w fun e w' => e = .returned (.bool (onF n)) ∧ w = w' := by
  have hb := begins_any n
  have hf : onF n = (begF n || decide (48 ≤ n ∧ n ≤ 57) || decide (n = 45)) := rfl
  generalize begF n = b at hb hf
  have HB := Lib.hid hb
  have HF := Lib.hid hf
  clear hb hf
  by_cases h5 : n = 45
  · have e5 : (n == 45) = true := by simp [h5]
    have h1 : ¬ 48 ≤ n := by omega
    have H5 := Lib.hid h5
    clear h5
    cases b
    all_goals
      go_enter Try.func33, Try.ntmps33
      go_wp2_with (go_at_call 32; refine (HB.out _).mono ?_; rintro e w' ⟨rfl, rfl⟩)
      go_ret
      exact ⟨ret_bool (by rw [HF.out]; simp [H5.out]), rfl⟩
  · have e5 : (n == 45) = false := by simp [h5]
    cases b
    all_goals
      by_cases h1 : 48 ≤ n
      all_goals
        by_cases h2 : n ≤ 57
        all_goals first
          | (exfalso; omega)
          | (go_enter Try.func33, Try.ntmps33
             go_wp2_with (go_at_call 32; refine (HB.out _).mono ?_; rintro e w' ⟨rfl, rfl⟩)
             go_ret
             exact ⟨ret_bool (by rw [HF.out]; first | (simp [h1, h2, h5]; done) | (simp; omega)), rfl⟩)
set_option maxHeartbeats 4000000 in
theorem Next_any (n : Int) (w : World) : Calls Try.prog 35 #[.int .u8 n] w fun e w' => e = .returned (.bool (onF n)) ∧ w = w' := by
  have hb := First_any n
  have hf : onF n = (begF n || decide (48 ≤ n ∧ n ≤ 57) || decide (n = 45)) := rfl
  generalize begF n = b at hb hf
  have HB := Lib.hid hb
  have HF := Lib.hid hf
  clear hb hf
  by_cases h5 : n = 45
  · have e5 : (n == 45) = true := by simp [h5]
    have h1 : ¬ 48 ≤ n := by omega
    have H5 := Lib.hid h5
    clear h5
    cases b
    all_goals
      go_enter Try.func35, Try.ntmps35
      go_wp2_with (go_at_call 34; refine (HB.out _).mono ?_; rintro e w' ⟨rfl, rfl⟩)
      go_ret
      exact ⟨ret_bool (by rw [HF.out]; simp [H5.out]), rfl⟩
  · have e5 : (n == 45) = false := by simp [h5]
    cases b
    all_goals
      by_cases h1 : 48 ≤ n
      all_goals
        by_cases h2 : n ≤ 57
        all_goals first
          | (exfalso; omega)
          | (go_enter Try.func35, Try.ntmps35
             go_wp2_with (go_at_call 34; refine (HB.out _).mono ?_; rintro e w' ⟨rfl, rfl⟩)
             go_ret
             exact ⟨ret_bool (by rw [HF.out]; first | (simp [h1, h2, h5]; done) | (simp; omega)), rfl⟩)
end Go.Proofs.Ytaaegelefknkeab
