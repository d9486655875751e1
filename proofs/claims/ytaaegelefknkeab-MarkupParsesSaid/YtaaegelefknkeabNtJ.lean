/- The reference's Unescape; the law on it, walked. -/
import Derived.Test.YtaaegelefknkeabNtI
namespace Go.Proofs.Ytaaegelefknkeab
open Go.RowKit Go.Shelf
set_option linter.unusedSimpArgs false
set_option linter.unusedVariables false

set_option maxHeartbeats 1000000 in
theorem RUnescape_any (s : ByteArray) (hs : s.size ≤ 1000000) (w : World) :
    Calls Try.prog 22 #[.string s] w fun e w' => e = .returned (unV (unF s s.size 0 ⟨#[]⟩)) ∧ Below w.heap.size w w' := by
  obtain ⟨D, hD⟩ : ∃ D, D = unF s s.size 0 ⟨#[]⟩ := ⟨_, rfl⟩
  rw [← hD]
  have HD := Lib.hid hD
  clear hD
  go_enter Try.func22, Try.ntmps22
  go_wp2_with fail
  go_loopw [5, 6] (fun o i wr => ∃ (k f : Nat) (b : ByteArray), i = .int .i64 k ∧ o = .string b ∧ k ≤ s.size ∧ s.size ≤ k + f ∧ b.size ≤ 4 * k ∧ unF s f k b = D ∧ Below w.heap.size w wr) (fun _ i _ => s.size - (intOf i).toNat)
  case atStart => exact ⟨0, s.size, ⟨#[]⟩, rfl, rfl, by omega, by omega, by decide, HD.out.symm, Below.refl _ _⟩
  case round =>
    obtain ⟨k, f, b, rfl, rfl, hk, hf, hbs, hun, hbl⟩ := hrel
    have Hbl := Lib.hid hbl
    have Hun := Lib.hid hun
    clear hbl hun
    by_cases hk1 : k < s.size
    · have hk1' : (k : Int) < s.size := by omega
      obtain ⟨f, rfl⟩ : ∃ g, f = g + 1 := ⟨f - 1, by omega⟩
      cases h38 : (((s[k]'hk1).toNat : Int) != 38) with
      | true =>
        have h1 : unF s (f + 1) k b = unF s f (k + 1) (b ++ ⟨#[s[k]'hk1]⟩) := by
          rw [unF, dif_pos hk1, if_pos (by intro h; rw [h] at h38; simp at h38)]
        rw [h1, ← extract_one s k hk1] at Hun
        clear h1
        have hx : (s.extract k (k + 1)).size = 1 := by rw [ByteArray.size_extract]; omega
        have hsl : ∀ W', (Instr.slice 9 (.string s) (some (.int .i64 (k : Int))) (some (.int .i64 ((k : Int) + 1))) none).run Try.prog W' = .ok (.string (s.extract k (k + 1))) W' := fun W' => by
          rw [run_slice_string W' 9 s .i64 .i64 _ _ Try.underlying9 (by omega) (by omega) (by omega)]
          congr 3
        go_wp2
        go_roundw
        case rel => exact ⟨k + 1, f, b ++ s.extract k (k + 1), by go_num, rfl, by omega, by omega, by rw [ByteArray.size_append, hx]; omega, Hun.out, Hbl.out⟩
        case measure => simp [intOf]; omega
      | false =>
        have h38' : (s[k]'hk1).toNat = 38 := by simp at h38; omega
        obtain ⟨q, hq⟩ : ∃ q, q = s.extract k s.size := ⟨_, rfl⟩
        have hqs : q.size = s.size - k := by rw [hq, ByteArray.size_extract]; omega
        have hbd := escF_bounds q
        have hesc := REscape1_any q (by omega)
        have h1 : unF s (f + 1) k b = if (escF q).2 = 0 then .error k else unF s f (k + (escF q).2.toNat) (b ++ Utf8.encode (escF q).1) := by
          rw [unF, dif_pos hk1, if_neg (by simp [h38']), hq]
        rw [h1] at Hun
        have HQ := Lib.hid hq
        generalize escF q = p at hbd hesc Hun
        obtain ⟨r, n⟩ := p
        dsimp only at hbd Hun
        obtain ⟨hb1, hb2, hb3⟩ := hbd
        unfold rescV at hesc
        dsimp only at hesc
        clear h1 hq h38'
        by_cases hn : n = 0
        · rw [if_pos hn] at Hun
          rw [if_pos hn] at hesc
          have hD := Hun.out
          subst hD
          subst hn
          have HE := Lib.hid hesc
          clear hesc
          go_wp2_with (go_at_call 39; rw [← HQ.out]; refine (HE.out _).mono ?_; rintro e w1 ⟨rfl, hb⟩; have HB1 := Lib.hid hb; clear hb)
          exact bodyPost_ret (v := .tuple #[.string ⟨#[]⟩, .int .i64 k, .int .i64 3]) (by simp [results, Try.results22, go_sem]) rfl ⟨rfl, bchain Hbl.out HB1.out⟩
        · have e0 : (n == 0) = false := by simp [hn]
          rw [if_neg hn] at Hun
          rw [if_neg hn] at hesc
          have hn4 : 4 ≤ n ∧ n ≤ q.size := by omega
          have hn4' := hn4.1
          have hn5 : n ≤ s.size - k := by omega
          have hes := encode_size_le r
          obtain ⟨E, hE⟩ : ∃ E, E = Utf8.encode r := ⟨_, rfl⟩
          rw [← hE] at hesc hes Hun
          have HE := Lib.hid hesc
          clear hb1 hn4 hesc hE
          obtain ⟨z, rfl⟩ : ∃ z : Nat, n = z := ⟨n.toNat, by omega⟩
          rw [Int.toNat_natCast] at Hun
          go_wp2_with (go_at_call 39; rw [← HQ.out]; refine (HE.out _).mono ?_; rintro e w1 ⟨rfl, hb⟩; have HB1 := Lib.hid hb; clear hb)
          go_roundw
          case rel => exact ⟨k + z, f, b ++ E, by go_num, rfl, by omega, by omega, by rw [ByteArray.size_append]; omega, Hun.out, bchain Hbl.out HB1.out⟩
          case measure => simp [intOf]; omega
    · obtain rfl : k = s.size := by omega
      have hD := Hun.out
      rw [unF_end s f _ _ hk1] at hD
      subst hD
      go_wp2
      exact bodyPost_ret (v := .tuple #[.string b, .int .i64 0, .int .i64 0]) (by simp [results, Try.results22, go_sem]) rfl ⟨rfl, Hbl.out⟩

set_option maxHeartbeats 1000000 in
theorem walk_Unescapes (s : ByteArray) (w : World) : Calls Try.prog 6 #[.string s] w fun e w' => e = .returned (.bool true) ∧ Below w.heap.size w w' := by
  by_cases h : 400 < s.size
  · have h' : (400 : Int) < s.size := by omega
    go_enter Try.func6, Try.ntmps6
    go_wp2
    go_ret
    exact ⟨rfl, Below.refl _ _⟩
  · have h' : ¬ (400 : Int) < s.size := by omega
    have hV := Unescape_any s (by omega)
    have hR := RUnescape_any s (by omega)
    generalize unF s s.size 0 ⟨#[]⟩ = D at hV hR
    have HA := Lib.hid awake_any
    cases D with
    | error i =>
      have HV := Lib.hid hV
      have HR := Lib.hid hR
      clear hV hR
      simp only [unV] at HV HR
      go_enter Try.func6, Try.ntmps6
      go_wp2_with (first | (go_at_call 21; refine (HV.out _).mono ?_; rintro e w1 ⟨rfl, hb1⟩; have HB1 := Lib.hid hb1; clear hb1) | (go_at_call 22; refine (HR.out _).mono ?_; rintro e w2 ⟨rfl, hb2⟩; have HB2 := Lib.hid hb2; clear hb2) | (go_at_call 16; refine (HA.out _).mono ?_; rintro e w3 ⟨rfl, hb3⟩; have HB3 := Lib.hid hb3; clear hb3))
      go_ret
      exact ⟨rfl, bchain (bchain HB1.out HB2.out) HB3.out⟩
    | ok b =>
      have HV := Lib.hid hV
      have HR := Lib.hid hR
      clear hV hR
      simp only [unV] at HV HR
      go_enter Try.func6, Try.ntmps6
      go_wp2_with (first | (go_at_call 21; refine (HV.out _).mono ?_; rintro e w1 ⟨rfl, hb1⟩; have HB1 := Lib.hid hb1; clear hb1) | (go_at_call 22; refine (HR.out _).mono ?_; rintro e w2 ⟨rfl, hb2⟩; have HB2 := Lib.hid hb2; clear hb2) | (go_at_call 16; refine (HA.out _).mono ?_; rintro e w3 ⟨rfl, hb3⟩; have HB3 := Lib.hid hb3; clear hb3))
      go_ret
      exact ⟨rfl, bchain (bchain HB1.out HB2.out) HB3.out⟩
end Go.Proofs.Ytaaegelefknkeab
