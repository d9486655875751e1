/- ValidValue. -/
import Derived.Test.YtaaegelefknkeabMsB
namespace Go.Proofs.Ytaaegelefknkeab
open Go.RowKit Go.Shelf
set_option linter.unusedSimpArgs false

/-- A code point that no value has. -/
def badR (u : U) : Bool := decide ((u.1 : Int) ≤ 31) || ((u.1 : Int) == 127)
def vvF (s : ByteArray) : Int := if 120 < s.size then 2 else if validF s = false then 7 else if (unitsOf s).any badR = true then 14 else 0

set_option maxHeartbeats 4000000 in
theorem ValidValue_any (s : ByteArray) (hs : s.size ≤ 140737488351232) (w : World) :
    Calls Try.prog 17 #[.string s] w fun e w' => e = .returned (.int .i64 (vvF s)) ∧ Below w.heap.size w w' := by
  unfold vvF
  by_cases hl : 120 < s.size
  · rw [if_pos hl]
    have hl' : (120 : Int) < s.size := by omega
    go_enter Try.func17, Try.ntmps17
    go_wp2
    go_ret
    exact ⟨rfl, Below.refl _ _⟩
  · rw [if_neg hl]
    have hl' : ¬ (120 : Int) < s.size := by omega
    have hV := Valid_any s hs
    cases hv : validF s with
    | false =>
      rw [hv] at hV
      have HV := Lib.hid hV
      clear hV hv
      rw [if_pos rfl]
      go_enter Try.func17, Try.ntmps17
      go_wp2_with (go_at_call 36; refine (HV.out _).mono ?_; rintro e w1 ⟨rfl, hb⟩)
      go_ret
      exact ⟨rfl, hb⟩
    | true =>
      rw [hv] at hV
      have HV := Lib.hid hV
      clear hV hv
      rw [if_neg (by simp)]
      obtain ⟨r, hr⟩ : ∃ r, r = if (unitsOf s).any badR = true then (14 : Int) else 0 := ⟨_, rfl⟩
      rw [← hr]
      have HR := Lib.hid hr
      clear hr
      go_enter Try.func17, Try.ntmps17
      go_wp2_with (go_at_call 36; refine (HV.out _).mono ?_; rintro e w1 ⟨rfl, hb1⟩)
      have HB1 := Lib.hid hb1
      clear hb1
      go_loopw [4] (fun _ wr => ∃ (pos fuel : Nat), wr.heap[w1.heap.size]? = some (.stringIter s pos) ∧ (unitsFrom s fuel pos).any badR = (unitsOf s).any badR ∧ s.size ≤ pos + fuel ∧ Below w1.heap.size w1 wr) (fun _ wr => s.size - wr.iterPos w1.heap.size)
      case atStart => exact ⟨0, s.size, World.iter_heap w1 s 0, rfl, by omega, (Below.refl _ w1).alloc (Nat.le_refl _) _⟩
      case round =>
        obtain ⟨pos, fuel, hit, hk, hf, hb⟩ := hrel
        have HK := Lib.hid hk
        have HB := Lib.hid hb
        clear hk hb
        by_cases hp : pos < s.size
        · have hnx : ∀ ty, (Instr.next (.pointer (some ⟨w1.heap.size, 0, none⟩)) true ty).run Try.prog wr = _ := fun ty => Lib.run_next_any_at wr w1.heap.size s pos ty hit hp
          have hwd := width_pos s pos hp
          obtain ⟨f, rfl⟩ : ∃ f, fuel = f + 1 := ⟨fuel - 1, by omega⟩
          have hu : (unitsFrom s (f + 1) pos).any badR = (badR ((Utf8.decode s pos).1, pos, (Utf8.decode s pos).2) || (unitsFrom s f (pos + (Utf8.decode s pos).2)).any badR) := by
            rw [unitsFrom, if_pos hp, List.any_cons]
          have hbd : badR ((Utf8.decode s pos).1, pos, (Utf8.decode s pos).2) = (decide (((Utf8.decode s pos).1 : Int) ≤ 31) || (((Utf8.decode s pos).1 : Int) == 127)) := rfl
          rw [hbd] at hu
          clear hbd
          by_cases h31 : ((Utf8.decode s pos).1 : Int) ≤ 31
          · have h14 : (unitsOf s).any badR = true := by rw [← HK.out]; rw [hu]; simp [h31]
            have H14 := Lib.hid h14
            clear hu h14
            go_wp2
            go_ret
            exact ⟨ret_int (by rw [HR.out, if_pos H14.out]), bchain HB1.out (Lib.below_iterAt HB.out (Nat.le_refl _) s _)⟩
          · cases h127 : (((Utf8.decode s pos).1 : Int) == 127) with
            | true =>
              have h14 : (unitsOf s).any badR = true := by rw [← HK.out]; rw [hu]; simp [h127]
              have H14 := Lib.hid h14
              clear hu h14
              go_wp2
              go_ret
              exact ⟨ret_int (by rw [HR.out, if_pos H14.out]), bchain HB1.out (Lib.below_iterAt HB.out (Nat.le_refl _) s _)⟩
            | false =>
              have hn : (unitsFrom s f (pos + (Utf8.decode s pos).2)).any badR = (unitsOf s).any badR := by rw [← HK.out]; rw [hu, h127]; simp [h31]
              have HN := Lib.hid hn
              clear hu hn
              go_wp2
              go_roundw
              case rel => exact ⟨pos + (Utf8.decode s pos).2, f, Lib.iterAt_heap wr w1.heap.size s pos _ hit, HN.out, by omega, Lib.below_iterAt HB.out (Nat.le_refl _) s _⟩
              case measure =>
                simp only [World.iterPos, hit, Lib.iterAt_heap wr w1.heap.size s pos _ hit]
                omega
        · have hnx : ∀ ty, (Instr.next (.pointer (some ⟨w1.heap.size, 0, none⟩)) true ty).run Try.prog wr = _ := fun ty => Lib.run_next_end_at wr w1.heap.size s pos ty hit hp
          have h0 : (unitsOf s).any badR = false := by rw [← HK.out, unitsFrom_end s fuel pos hp]; rfl
          have H0 := Lib.hid h0
          clear h0
          go_wp2
          go_ret
          exact ⟨ret_int (by rw [HR.out, if_neg (by rw [H0.out]; simp)]), bchain HB1.out HB.out⟩
end Go.Proofs.Ytaaegelefknkeab
