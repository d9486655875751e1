/- The reference's Escape. -/
import Derived.Test.YtaaegelefknkeabMsG
namespace Go.Proofs.Ytaaegelefknkeab
open Go.RowKit Go.Shelf
set_option linter.unusedSimpArgs false

theorem extract_one (s : ByteArray) (k : Nat) (h : k < s.size) : s.extract k (k + 1) = ⟨#[s[k]'h]⟩ := by
  apply ByteArray.ext
  apply Array.ext'
  rw [ByteArray.data_extract, Array.toList_extract]
  have hk : k < s.data.toList.length := h
  simp only [List.extract, Nat.add_sub_cancel_left]
  rw [List.drop_eq_getElem_cons hk]
  rfl
set_option maxHeartbeats 4000000 in
theorem REscape_any (s : ByteArray) (hs : s.size ≤ 1000000) (w : World) :
    Calls Try.prog 20 #[.string s] w fun e w' => e = .returned (.string (esF s s.size 0 ⟨#[]⟩)) ∧ w = w' := by
  obtain ⟨D, hD⟩ : ∃ D, D = esF s s.size 0 ⟨#[]⟩ := ⟨_, rfl⟩
  rw [← hD]
  have HD := Lib.hid hD
  clear hD
  go_enter Try.func20, Try.ntmps20
  go_wp2_with fail
  go_loopw [3, 4] (fun o i wr => ∃ (k f : Nat) (b : ByteArray), i = .int .i64 k ∧ o = .string b ∧ k ≤ s.size ∧ s.size ≤ k + f ∧ b.size ≤ 6 * k ∧ esF s f k b = D ∧ wr = w) (fun _ i _ => s.size - (intOf i).toNat)
  case atStart => exact ⟨0, s.size, ⟨#[]⟩, rfl, rfl, by omega, by omega, by decide, HD.out.symm, rfl⟩
  case round =>
    obtain ⟨k, f, b, rfl, rfl, hk, hf, hbs, hun, rfl⟩ := hrel
    have Hun := Lib.hid hun
    clear hun
    by_cases hk1 : k < s.size
    · have hk1' : (k : Int) < s.size := by omega
      obtain ⟨f, rfl⟩ : ∃ g, f = g + 1 := ⟨f - 1, by omega⟩
      have h1 : esF s (f + 1) k b = esF s f (k + 1) (b ++ escB (s[k]'hk1)) := by rw [esF, dif_pos hk1]
      rw [h1] at Hun
      clear h1
      cases h38 : (((s[k]'hk1).toNat : Int) == 38) with
      | true =>
        have hb : escB (s[k]'hk1) = ⟨#[38, 97, 109, 112, 59]⟩ := by
          have e : (s[k]'hk1).toNat = 38 := by have := eq_of_beq h38; omega
          unfold escB
          rw [if_pos e]
        have HB := Lib.hid hb
        clear hb
        have hz : (ByteArray.mk #[38, 97, 109, 112, 59]).size ≤ 6 := by decide
        have HUN : Hid (esF s f (k + 1) (b ++ ⟨#[38, 97, 109, 112, 59]⟩) = D) := by rw [← HB.out]; exact Hun
        go_wp2
        go_roundw
        case rel => exact ⟨k + 1, f, b ++ ⟨#[38, 97, 109, 112, 59]⟩, by go_num, rfl, by omega, by omega, by rw [ByteArray.size_append]; omega, HUN.out, by first | trivial | rfl⟩
        case measure => simp [intOf]; omega
      | false =>
        cases h60 : (((s[k]'hk1).toNat : Int) == 60) with
        | true =>
          have hb : escB (s[k]'hk1) = ⟨#[38, 108, 116, 59]⟩ := by
            have e : (s[k]'hk1).toNat = 60 := by have := eq_of_beq h60; omega
            unfold escB
            rw [if_neg (by omega), if_pos e]
          have HB := Lib.hid hb
          clear hb
          have hz : (ByteArray.mk #[38, 108, 116, 59]).size ≤ 6 := by decide
          have HUN : Hid (esF s f (k + 1) (b ++ ⟨#[38, 108, 116, 59]⟩) = D) := by rw [← HB.out]; exact Hun
          go_wp2
          go_roundw
          case rel => exact ⟨k + 1, f, b ++ ⟨#[38, 108, 116, 59]⟩, by go_num, rfl, by omega, by omega, by rw [ByteArray.size_append]; omega, HUN.out, by first | trivial | rfl⟩
          case measure => simp [intOf]; omega
        | false =>
          cases h62 : (((s[k]'hk1).toNat : Int) == 62) with
          | true =>
            have hb : escB (s[k]'hk1) = ⟨#[38, 103, 116, 59]⟩ := by
              have e : (s[k]'hk1).toNat = 62 := by have := eq_of_beq h62; omega
              unfold escB
              rw [if_neg (by omega), if_neg (by omega), if_pos e]
            have HB := Lib.hid hb
            clear hb
            have hz : (ByteArray.mk #[38, 103, 116, 59]).size ≤ 6 := by decide
            have HUN : Hid (esF s f (k + 1) (b ++ ⟨#[38, 103, 116, 59]⟩) = D) := by rw [← HB.out]; exact Hun
            go_wp2
            go_roundw
            case rel => exact ⟨k + 1, f, b ++ ⟨#[38, 103, 116, 59]⟩, by go_num, rfl, by omega, by omega, by rw [ByteArray.size_append]; omega, HUN.out, by first | trivial | rfl⟩
            case measure => simp [intOf]; omega
          | false =>
            cases h34 : (((s[k]'hk1).toNat : Int) == 34) with
            | true =>
              have hb : escB (s[k]'hk1) = ⟨#[38, 113, 117, 111, 116, 59]⟩ := by
                have e : (s[k]'hk1).toNat = 34 := by have := eq_of_beq h34; omega
                unfold escB
                rw [if_neg (by omega), if_neg (by omega), if_neg (by omega), if_pos e]
              have HB := Lib.hid hb
              clear hb
              have hz : (ByteArray.mk #[38, 113, 117, 111, 116, 59]).size ≤ 6 := by decide
              have HUN : Hid (esF s f (k + 1) (b ++ ⟨#[38, 113, 117, 111, 116, 59]⟩) = D) := by rw [← HB.out]; exact Hun
              go_wp2
              go_roundw
              case rel => exact ⟨k + 1, f, b ++ ⟨#[38, 113, 117, 111, 116, 59]⟩, by go_num, rfl, by omega, by omega, by rw [ByteArray.size_append]; omega, HUN.out, by first | trivial | rfl⟩
              case measure => simp [intOf]; omega
            | false =>
              have hb : escB (s[k]'hk1) = ⟨#[s[k]'hk1]⟩ := by
                have n38 : ¬ (s[k]'hk1).toNat = 38 := fun h => by rw [h] at h38; simp at h38
                have n60 : ¬ (s[k]'hk1).toNat = 60 := fun h => by rw [h] at h60; simp at h60
                have n62 : ¬ (s[k]'hk1).toNat = 62 := fun h => by rw [h] at h62; simp at h62
                have n34 : ¬ (s[k]'hk1).toNat = 34 := fun h => by rw [h] at h34; simp at h34
                unfold escB
                rw [if_neg n38, if_neg n60, if_neg n62, if_neg n34]
              have HB := Lib.hid hb
              clear hb
              have hz : (s.extract k (k + 1)).size = 1 := by rw [extract_one s k hk1]; rfl
              have hsl : ∀ W', (Instr.slice 9 (.string s) (some (.int .i64 (k : Int))) (some (.int .i64 ((k : Int) + 1))) none).run Try.prog W' = .ok (.string (s.extract k (k + 1))) W' := fun W' => by
                rw [run_slice_string W' 9 s .i64 .i64 _ _ Try.underlying9 (by omega) (by omega) (by omega)]
                congr 3
              have HUN : Hid (esF s f (k + 1) (b ++ s.extract k (k + 1)) = D) := by rw [extract_one s k hk1, ← HB.out]; exact Hun
              go_wp2
              go_roundw
              case rel => exact ⟨k + 1, f, b ++ s.extract k (k + 1), by go_num, rfl, by omega, by omega, by rw [ByteArray.size_append, hz]; omega, HUN.out, by first | trivial | rfl⟩
              case measure => simp [intOf]; omega
    · have hk1' : ¬ (k : Int) < s.size := by omega
      have hD := Hun.out
      rw [esF_end s f _ _ hk1] at hD
      subst hD
      go_wp2
      go_ret
      exact ⟨rfl, rfl⟩
end Go.Proofs.Ytaaegelefknkeab
