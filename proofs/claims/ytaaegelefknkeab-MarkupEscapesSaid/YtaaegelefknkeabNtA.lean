/- The laws on names and on escapes, walked. -/
import Derived.Test.YtaaegelefknkeabMtK
namespace Go.Proofs.Ytaaegelefknkeab
open Go.RowKit Go.Shelf
set_option linter.unusedSimpArgs false

set_option maxHeartbeats 1000000 in
theorem walk_Names (s : ByteArray) (w : World) : Calls Try.prog 3 #[.string s] w fun e w' => e = .returned (.bool true) ∧ Below w.heap.size w w' := by
  by_cases h : 200 < s.size
  · have h' : (200 : Int) < s.size := by omega
    go_enter Try.func3, Try.ntmps3
    go_wp2
    go_ret
    exact ⟨rfl, Below.refl _ _⟩
  · have h' : ¬ (200 : Int) < s.size := by omega
    have HV := Lib.hid (ValidName_any s (by omega))
    have HR := Lib.hid (RValidName_any s (by omega))
    generalize vnF s = b at HV HR
    have HA := Lib.hid awake_any
    cases b
    all_goals
      go_enter Try.func3, Try.ntmps3
      go_wp2_with (first | (go_at_call 14; refine (HV.out _).mono ?_; rintro e w1 ⟨rfl, rfl⟩) | (go_at_call 15; refine (HR.out _).mono ?_; rintro e w2 ⟨rfl, rfl⟩) | (go_at_call 16; refine (HA.out _).mono ?_; rintro e w3 ⟨rfl, hb3⟩))
      go_ret
      exact ⟨rfl, hb3⟩

set_option maxHeartbeats 1000000 in
theorem walk_Escapes (s : ByteArray) (w : World) : Calls Try.prog 5 #[.string s] w fun e w' => e = .returned (.bool true) ∧ Below w.heap.size w w' := by
  by_cases h : 400 < s.size
  · have h' : (400 : Int) < s.size := by omega
    go_enter Try.func5, Try.ntmps5
    go_wp2
    go_ret
    exact ⟨rfl, Below.refl _ _⟩
  · have h' : ¬ (400 : Int) < s.size := by omega
    have HV := Lib.hid (Escape_any s (by omega))
    have HR := Lib.hid (REscape_any s (by omega))
    generalize esF s s.size 0 ⟨#[]⟩ = b at HV HR
    have HA := Lib.hid awake_any
    have hbb : (b.toList == b.toList) = true := by simp
    go_enter Try.func5, Try.ntmps5
    go_wp2_with (first | (go_at_call 19; refine (HV.out _).mono ?_; rintro e w1 ⟨rfl, hb1⟩) | (go_at_call 20; refine (HR.out _).mono ?_; rintro e w2 ⟨rfl, rfl⟩) | (go_at_call 16; refine (HA.out _).mono ?_; rintro e w3 ⟨rfl, hb3⟩))
    go_ret
    exact ⟨rfl, bchain hb1 hb3⟩
end Go.Proofs.Ytaaegelefknkeab
