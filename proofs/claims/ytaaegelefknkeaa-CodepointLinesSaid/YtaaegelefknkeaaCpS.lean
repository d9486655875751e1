/- The walks of long and awake. -/
import Derived.Test.YtaaegelefknkeaaCpQ
import Derived.RowKit3
namespace Go.Proofs.Ytaaegelefknkeaa
open Go.RowKit Go.Shelf
set_option linter.unusedSimpArgs false

/-- One of the strings is longer than 400 bytes. -/
def longF (ss : List ByteArray) : Bool := ss.any fun s => decide (400 < s.size)

set_option maxHeartbeats 4000000 in
theorem long_any (g n cap : Nat) (ss : List ByteArray) (hn : ss.length = n) (hlim : n ≤ 10) (w : World) (hc : ∀ k s, ss[k]? = some s → w.cell? ⟨g, k, none⟩ = some (.string s)) :
    Calls Try.prog 13 #[.slice (some ⟨g, 0, none⟩) n cap] w fun e w' => e = .returned (.bool (longF ss)) ∧ w = w' := by
  have Hc := Lib.hid hc
  have Hn := Lib.hid hn
  clear hc hn
  go_enter Try.func13, Try.ntmps13
  go_wp2
  go_loop [7] (fun i => ∃ k : Nat, k ≤ n ∧ i = .int .i64 k ∧ longF (ss.take k) = false) (fun i => n - (intOf i).toNat)
  case atStart => exact ⟨0, by omega, rfl, rfl⟩
  case round =>
    obtain ⟨k, hk, rfl, hl⟩ := hrel
    by_cases hkn : k < n
    · obtain ⟨s, hs⟩ : ∃ s, ss[k]? = some s := ⟨_, List.getElem?_eq_getElem (by rw [Hn.out]; exact hkn)⟩
      have hcell := Hc.out k s hs
      have Hs := Lib.hid hs
      have Hl := Lib.hid hl
      clear hs hl
      by_cases h4 : 400 < s.size
      · go_wp2
        go_ret
        refine ⟨ret_bool ?_, rfl⟩
        rw [eq_comm, longF, List.any_eq_true]
        exact ⟨s, List.mem_of_getElem? Hs.out, by simp [h4]⟩
      · go_wp2
        go_round
        case rel =>
          refine ⟨k + 1, by omega, by go_num, ?_⟩
          rw [take_snoc Hs.out, longF, List.any_append]
          have := Hl.out
          unfold longF at this
          rw [this]
          simp; omega
        case measure => simp [intOf]; omega
    · obtain rfl : k = n := by omega
      rw [List.take_of_length_le (by rw [Hn.out]; exact Nat.le_refl _)] at hl
      have Hl := Lib.hid hl
      clear hl
      go_wp2
      go_ret
      exact ⟨ret_bool Hl.out.symm, rfl⟩

theorem awake_any (w : World) : Calls Try.prog 16 #[] w fun e w' => e = .returned (.bool true) ∧ Below w.heap.size w w' := by
  have c1 : ((unitsOf ⟨#[97, 255, 254]⟩).length : Int) = 3 := by decide
  have c2 : revF ⟨#[97, 195, 169]⟩ = ⟨#[195, 169, 97]⟩ := by decide
  have c3 : posF ⟨#[97, 10, 195, 169, 33]⟩ 4 = (2, 2) := by decide
  have s1 : (⟨#[97, 255, 254]⟩ : ByteArray).size = 3 := rfl
  have s2 : (⟨#[97, 195, 169]⟩ : ByteArray).size = 3 := rfl
  have s3 : (⟨#[97, 10, 195, 169, 33]⟩ : ByteArray).size = 5 := rfl
  have C1 := Lib.hid c1
  have C2 := Lib.hid c2
  have C3 := Lib.hid c3
  clear c1 c2 c3 s1 s2 s3
  go_enter Try.func16, Try.ntmps16
  go_wp2_with (first | (go_at_call 22; refine (Count_any _ _ (by decide)).mono ?_; rintro e w' ⟨rfl, hb1⟩; rw [C1.out]) | (go_at_call 17; refine (Reverse_any _ (by decide) _).mono ?_; rintro e w' ⟨rfl, hb2⟩; rw [C2.out]) | (go_at_call 14; refine (Position_any _ _ (by decide) _).mono ?_; rintro e w' ⟨rfl, hb3⟩; rw [C3.out, posV]))
  go_ret
  exact ⟨rfl, (hb1.trans (hb2.mono hb1.size)).trans (hb3.mono (by have := hb1.size; have := hb2.size; omega))⟩
end Go.Proofs.Ytaaegelefknkeaa
