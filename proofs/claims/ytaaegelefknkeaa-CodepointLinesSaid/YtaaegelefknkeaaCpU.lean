/- The walks of the laws CodepointUnits and CodepointValid. -/
import Derived.Test.YtaaegelefknkeaaCpT
namespace Go.Proofs.Ytaaegelefknkeaa
open Go.RowKit Go.Shelf
set_option linter.unusedSimpArgs false

/-- At's answer, part by part. -/
def atR (o : Option U) : Int := match o with | some u => u.1 | none => 0
def atA (o : Option U) : Int := match o with | some u => u.2.1 | none => 0
def atZ (o : Option U) : Int := match o with | some u => u.2.2 | none => 0
theorem atV_eq (o : Option U) : atV o = .tuple #[.int .i32 (atR o), .int .i64 (atA o), .int .i64 (atZ o), .bool o.isSome] := by cases o <;> rfl

set_option maxHeartbeats 4000000 in
theorem walk_Units (s : ByteArray) (i : Int) (hi0 : -9223372036854775808 ≤ i) (hi1 : i ≤ 9223372036854775807) (w : World) :
    Calls Try.prog 6 #[.string s, .int .i64 i] w fun e w' => e = .returned (.bool true) ∧ Below w.heap.size w w' := by
  have Hi0 := Lib.hid hi0
  have Hi1 := Lib.hid hi1
  clear hi0 hi1
  by_cases hl : 400 < s.size
  · have hl1 : decide (400 < s.size) = true := decide_eq_true hl
    have HL := Lib.hid hl1
    clear hl hl1
    go_enter Try.func6, Try.ntmps6
    go_wp2_with (go_at_call 13; refine (long1 s w true HL.out).mono ?_; rintro e w' ⟨rfl, rfl⟩)
    go_ret
    exact ⟨rfl, b0 _ _⟩
  · have hl1 : decide (400 < s.size) = false := decide_eq_false hl
    have HL := Lib.hid hl1
    have hs : s.size ≤ 1000000 := by omega
    have hs2 : s.size ≤ 140737488351232 := by omega
    have hlen : (unitsOf s).length ≤ 1000000 := by have := unitsFrom_len s s.size 0; unfold unitsOf; omega
    clear hl hl1
    obtain ⟨n, hn⟩ : ∃ n, n = (unitsOf s).length := ⟨_, rfl⟩
    have Hn := Lib.hid hn
    rw [← hn] at hlen
    clear hn
    go_enter Try.func6, Try.ntmps6
    go_wp2_with (first | (go_at_call 13; refine (long1 s w false HL.out).mono ?_; rintro e w' ⟨rfl, rfl⟩) | (go_at_call 19; refine (RUnits_any s hs _).mono ?_; rintro e wl ⟨v, rfl, hv, hb0⟩; obtain ⟨A, cap, rfl⟩ := OwnsR.len hv; rw [← Hn.out]; clear hv))
    go_loopw [6] (fun i wr => ∃ j : Int, -1 ≤ j ∧ j ≤ (n : Int) + 1 ∧ i = .int .i64 j ∧ Below w.heap.size w wr) (fun i _ => ((n : Int) + 1 - intOf i).toNat)
    case atStart => exact ⟨-1, by omega, by omega, rfl, bchain (b0 _ _) hb0⟩
    case round =>
      obtain ⟨j, hj0, hj1, rfl, hbe⟩ := hrel
      by_cases hj : j ≤ (n : Int)
      · go_wp2_with (first | (go_at_call 20; refine (At_any s j hs2 (by omega) (by omega) _).mono ?_; rintro e w' ⟨rfl, hb1⟩; rw [atV_eq]) | (go_at_call 21; refine (RAt_any s j hs _).mono ?_; rintro e w' ⟨rfl, hb2⟩; rw [atV_eq]))
        go_roundw
        case rel => exact ⟨j + 1, by omega, by omega, rfl, bchain hbe (bchain hb1 hb2)⟩
        case measure => simp [intOf]; omega
      · go_wp2_with (first | (go_at_call 20; refine (At_any s i hs2 Hi0.out Hi1.out _).mono ?_; rintro e w' ⟨rfl, hb1⟩; rw [atV_eq]) | (go_at_call 21; refine (RAt_any s i hs _).mono ?_; rintro e w' ⟨rfl, hb2⟩; rw [atV_eq]) | (go_at_call 22; refine (Count_any s _ hs2).mono ?_; rintro e w' ⟨rfl, hb3⟩; rw [← Hn.out]) | (go_at_call 16; refine (awake_any _).mono ?_; rintro e w' ⟨rfl, hb4⟩))
        go_ret
        exact ⟨rfl, bchain (bchain (bchain (bchain hbe hb1) hb2) hb3) hb4⟩
end Go.Proofs.Ytaaegelefknkeaa
