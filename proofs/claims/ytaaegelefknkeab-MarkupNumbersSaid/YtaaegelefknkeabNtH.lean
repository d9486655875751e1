/- The law MarkupNumbers, walked. -/
import Derived.Test.YtaaegelefknkeabNtG
namespace Go.Proofs.Ytaaegelefknkeab
open Go.RowKit Go.Shelf
set_option linter.unusedSimpArgs false
set_option linter.unusedVariables false

theorem encode_small (d : Nat) (h : d < 128) : Utf8.encode (d : Int) = ofL [UInt8.ofNat d] := by
  have hv : Utf8.valid (d : Int) = true := by
    unfold Utf8.valid
    simp
    omega
  unfold Utf8.encode
  simp only [hv, if_true, Int.toNat_natCast]
  rw [if_pos h]
  rfl

set_option maxRecDepth 20000 in
set_option maxHeartbeats 4000000 in
theorem walk_Numbers (n z : Int) (w : World) : Calls Try.prog 7 #[.int .i64 n, .int .i64 z] w fun e w' => e = .returned (.bool true) ∧ Below w.heap.size w w' := by
  by_cases h1 : n < 0
  · go_enter Try.func7, Try.ntmps7
    go_wp2
    go_ret
    exact ⟨rfl, Below.refl _ _⟩
  by_cases h2 : 99999999 < n
  · go_enter Try.func7, Try.ntmps7
    go_wp2
    go_ret
    exact ⟨rfl, Below.refl _ _⟩
  by_cases h3 : z < 0
  · go_enter Try.func7, Try.ntmps7
    go_wp2
    go_ret
    exact ⟨rfl, Below.refl _ _⟩
  by_cases h4 : 8 < z
  · go_enter Try.func7, Try.ntmps7
    go_wp2
    go_ret
    exact ⟨rfl, Below.refl _ _⟩
  obtain ⟨n, rfl⟩ : ∃ m : Nat, n = m := ⟨n.toNat, by omega⟩
  obtain ⟨z, rfl⟩ : ∃ m : Nat, z = m := ⟨z.toNat, by omega⟩
  have hn : n ≤ 99999999 := by omega
  have hz : z ≤ 8 := by omega
  have HA := Lib.hid awake_any
  obtain ⟨B, hB⟩ : ∃ B, B = ofL (numL n z) := ⟨_, rfl⟩
  have hB16 : B.size ≤ 16 := by
    rw [hB, ofL_size]
    unfold numL
    rw [List.length_append, List.length_replicate]
    have : (if n = 0 then [48] else decL 8 n : List UInt8).length ≤ 8 := by
      split
      · decide
      · exact decL_len 8 n
    omega
  have HU : Hid (∀ w : World, Calls Try.prog 21 #[.string (⟨#[97, 38, 35]⟩ ++ B ++ ⟨#[59, 98]⟩)] w fun e w' => e = .returned (unV (if 0 < z ∨ 7 < (numL n z).length ∨ (55296 ≤ n ∧ n ≤ 57343) ∨ 1114111 < n then .error 1 else .ok (ofL [97] ++ Utf8.encode (n : Int) ++ ofL [98]))) ∧ Below w.heap.size w w') := Lib.hid (fun w => by
    have hz16 : (⟨#[97, 38, 35]⟩ ++ B ++ ⟨#[59, 98]⟩ : ByteArray).size ≤ 1000000 := by rw [ByteArray.size_append, ByteArray.size_append]; show 3 + _ + 2 ≤ _; omega
    have := Unescape_any (⟨#[97, 38, 35]⟩ ++ B ++ ⟨#[59, 98]⟩) hz16 w
    have hs : (⟨#[97, 38, 35]⟩ ++ B ++ ⟨#[59, 98]⟩ : ByteArray) = ofL ([97, 38, 35] ++ numL n z ++ [59, 98]) := by rw [hB, ← ofL_append, ← ofL_append]; rfl
    rw [hs, num_law n z hn] at this
    rw [hs]
    exact this)
  obtain ⟨E, hE⟩ : ∃ E, E = Utf8.encode (n : Int) := ⟨_, rfl⟩
  have hes4 : E.size ≤ 4 := by rw [hE]; exact encode_size_le _
  have hcv : ∀ W : World, (convert 21 9 (.int .i32 (n : Int))).run Try.prog W = .ok (.string E) W := fun W => by rw [hE]; kernel_rfl
  rw [← hE] at HU
  have HCV := Lib.hid hcv
  clear hE hcv
  have HB := Lib.hid hB
  clear hB
  go_enter Try.func7, Try.ntmps7
  go_wp2_with fail
  go_loopw [5, 6] (fun d k wr => ∃ (m f : Nat) (c : List UInt8), k = .int .i64 m ∧ d = .string (ofL c) ∧ m ≤ n ∧ m < 10 ^ f ∧ decL f m ++ c = decL 8 n ∧ wr = w) (fun _ k _ => (intOf k).toNat)
  case atStart => exact ⟨n, 8, [], rfl, rfl, Nat.le_refl _, by omega, by rw [List.append_nil], rfl⟩
  case round =>
    obtain ⟨m, f, c, rfl, rfl, hm, hf, hc, rfl⟩ := hrel
    have hcl : c.length ≤ 8 := by
      have h5 := decL_len 8 n
      have h6 := congrArg List.length hc
      rw [List.length_append] at h6
      omega
    have hcs : (ofL c).size ≤ 8 := hcl
    by_cases hm0 : 0 < m
    · have hm0' : (0 : Int) < m := by omega
      obtain ⟨f, rfl⟩ : ∃ g, f = g + 1 := by
        cases f with
        | zero => simp at hf; omega
        | succ f => exact ⟨f, rfl⟩
      have hd10 := Nat.mod_lt m (show 0 < 10 by decide)
      obtain ⟨d, hd⟩ : ∃ d, d = m % 10 := ⟨_, rfl⟩
      obtain ⟨q, hq⟩ : ∃ q, q = m / 10 := ⟨_, rfl⟩
      have hrem : (m : Int).tmod 10 = (d : Int) := by rw [hd]; rfl
      have hquo : (m : Int).tdiv 10 = (q : Int) := by rw [hq]; rfl
      have hd9 : d ≤ 9 := by omega
      have hqm : q < m := by omega
      have hnew : decL f q ++ (UInt8.ofNat (48 + d) :: c) = decL 8 n := by
        rw [← hc, decL, if_neg (by omega), ← hq, ← hd, List.append_assoc]
        rfl
      have hfq : q < 10 ^ f := by rw [Nat.pow_succ] at hf; omega
      have HNEW := Lib.hid hnew
      have HFQ := Lib.hid hfq
      have hes : (Utf8.encode ((48 : Int) + d)).size ≤ 4 := encode_size_le _
      clear hc hnew hfq hd hq hf hcl hd10
      go_wp2
      go_roundw
      case rel => exact ⟨q, f, UInt8.ofNat (48 + d) :: c, by go_num, by rw [show (48 : Int) + (d : Int) = ((48 + d : Nat) : Int) by omega, encode_small _ (by omega), ofL_append]; rfl, by omega, HFQ.out, HNEW.out, by first | trivial | rfl⟩
      case measure => simp [intOf]; omega
    · have hm0' : ¬ (0 : Int) < m := by omega
      obtain rfl : m = 0 := by omega
      have hc0 : c = decL 8 n := by
        rw [← hc]
        cases f with
        | zero => rfl
        | succ f => rw [decL, if_pos rfl]; rfl
      have HLL : Hid (c.length ≤ 8) := Lib.hid hcl
      by_cases hn0 : n = 0
      · have hn0' : ((n : Int) == 0) = true := by simp [hn0]
        have HLB : Hid (ofL (List.replicate z 48 ++ [48]) = B) := Lib.hid (by rw [HB.out]; unfold numL; rw [if_pos hn0])
        have HLL : Hid (([48] : List UInt8).length ≤ 8) := Lib.hid (by decide)
        clear hc hc0 hf hn0 hcl hcs
        go_wp2_with fail
        obtain ⟨wo, rfl⟩ : ∃ x, x = wr := ⟨_, rfl⟩
        go_loopw [5, 7] (fun d k wr => ∃ j : Nat, k = .int .i64 j ∧ d = .string (ofL (List.replicate j 48 ++ [48])) ∧ j ≤ z ∧ wr = wo) (fun _ k _ => z - (intOf k).toNat)
        case atStart => exact ⟨0, rfl, rfl, Nat.zero_le _, rfl⟩
        case round =>
          obtain ⟨j, rfl, rfl, hj, rfl⟩ := hrel
          by_cases hjz : j < z
          · have hjz' : (j : Int) < z := by omega
            have hls : (ofL (List.replicate j 48 ++ [48])).size ≤ 16 := by rw [ofL_size, List.length_append, List.length_replicate]; have := HLL.out; omega
            go_wp2
            go_roundw
            case rel => exact ⟨j + 1, by go_num, by rw [show (⟨#[48]⟩ : ByteArray) = ofL [48] from rfl, ofL_append]; rfl, by omega, by first | trivial | rfl⟩
            case measure => simp [intOf]; omega
          · have hjz' : ¬ (j : Int) < z := by omega
            obtain rfl : j = z := by omega
            have hBB : ofL (List.replicate j 48 ++ [48]) = B := HLB.out
            rw [hBB]
            clear hBB
            by_cases c1 : 0 < j
            · have c1' : (0 : Int) < j := by omega
              have HUE : Hid (∀ w : World, Calls Try.prog 21 #[.string (⟨#[97, 38, 35]⟩ ++ B ++ ⟨#[59, 98]⟩)] w fun e w' => e = .returned (.tuple #[.string ⟨#[]⟩, .int .i64 1, .int .i64 3]) ∧ Below w.heap.size w w') := Lib.hid (fun w => by
                have := HU.out w
                rw [if_pos (.inl c1)] at this
                exact this)
              go_wp2_with (first | (go_at_call 21; refine (HUE.out _).mono ?_; rintro e w1 ⟨rfl, hb1⟩; have HB1 := Lib.hid hb1; clear hb1) | (go_at_call 16; refine (HA.out _).mono ?_; rintro e w2 ⟨rfl, hb2⟩; have HB2 := Lib.hid hb2; clear hb2))
              go_ret
              exact ⟨rfl, bchain HB1.out HB2.out⟩
            have c1' : ¬ (0 : Int) < j := by omega
            by_cases c2 : 7 < B.size
            · have c2' : (7 : Int) < B.size := by omega
              have HUE : Hid (∀ w : World, Calls Try.prog 21 #[.string (⟨#[97, 38, 35]⟩ ++ B ++ ⟨#[59, 98]⟩)] w fun e w' => e = .returned (.tuple #[.string ⟨#[]⟩, .int .i64 1, .int .i64 3]) ∧ Below w.heap.size w w') := Lib.hid (fun w => by
                have := HU.out w
                rw [if_pos (.inr (.inl (by rw [HB.out] at c2; exact c2)))] at this
                exact this)
              go_wp2_with (first | (go_at_call 21; refine (HUE.out _).mono ?_; rintro e w1 ⟨rfl, hb1⟩; have HB1 := Lib.hid hb1; clear hb1) | (go_at_call 16; refine (HA.out _).mono ?_; rintro e w2 ⟨rfl, hb2⟩; have HB2 := Lib.hid hb2; clear hb2))
              go_ret
              exact ⟨rfl, bchain HB1.out HB2.out⟩
            have c2' : ¬ (7 : Int) < B.size := by omega
            by_cases c5 : 1114111 < n
            · have c5' : (1114111 : Int) < n := by omega
              have c3' : (55296 : Int) ≤ n := by omega
              have c4' : ¬ (n : Int) ≤ 57343 := by omega
              have HUE : Hid (∀ w : World, Calls Try.prog 21 #[.string (⟨#[97, 38, 35]⟩ ++ B ++ ⟨#[59, 98]⟩)] w fun e w' => e = .returned (.tuple #[.string ⟨#[]⟩, .int .i64 1, .int .i64 3]) ∧ Below w.heap.size w w') := Lib.hid (fun w => by
                have := HU.out w
                rw [if_pos (.inr (.inr (.inr c5)))] at this
                exact this)
              go_wp2_with (first | (go_at_call 21; refine (HUE.out _).mono ?_; rintro e w1 ⟨rfl, hb1⟩; have HB1 := Lib.hid hb1; clear hb1) | (go_at_call 16; refine (HA.out _).mono ?_; rintro e w2 ⟨rfl, hb2⟩; have HB2 := Lib.hid hb2; clear hb2))
              go_ret
              exact ⟨rfl, bchain HB1.out HB2.out⟩
            have c5' : ¬ (1114111 : Int) < n := by omega
            have hc2 : ¬ 7 < (numL n j).length := by rw [HB.out] at c2; exact c2
            by_cases c3 : 55296 ≤ n
            · have c3' : (55296 : Int) ≤ n := by omega
              by_cases c4 : n ≤ 57343
              · have c4' : (n : Int) ≤ 57343 := by omega
                have HUE : Hid (∀ w : World, Calls Try.prog 21 #[.string (⟨#[97, 38, 35]⟩ ++ B ++ ⟨#[59, 98]⟩)] w fun e w' => e = .returned (.tuple #[.string ⟨#[]⟩, .int .i64 1, .int .i64 3]) ∧ Below w.heap.size w w') := Lib.hid (fun w => by
                  have := HU.out w
                  rw [if_pos (.inr (.inr (.inl ⟨c3, c4⟩)))] at this
                  exact this)
                go_wp2_with (first | (go_at_call 21; refine (HUE.out _).mono ?_; rintro e w1 ⟨rfl, hb1⟩; have HB1 := Lib.hid hb1; clear hb1) | (go_at_call 16; refine (HA.out _).mono ?_; rintro e w2 ⟨rfl, hb2⟩; have HB2 := Lib.hid hb2; clear hb2))
                go_ret
                exact ⟨rfl, bchain HB1.out HB2.out⟩
              · have c4' : ¬ (n : Int) ≤ 57343 := by omega
                have HUE : Hid (∀ w : World, Calls Try.prog 21 #[.string (⟨#[97, 38, 35]⟩ ++ B ++ ⟨#[59, 98]⟩)] w fun e w' => e = .returned (.tuple #[.string (⟨#[97]⟩ ++ E ++ ⟨#[98]⟩), .int .i64 0, .int .i64 0]) ∧ Below w.heap.size w w') := Lib.hid (fun w => by
                  have := HU.out w
                  rw [if_neg (by rintro (h | h | h | h); exact c1 h; exact hc2 h; exact c4 h.2; exact c5 h)] at this
                  exact this)
                clear c1 c2 c3 c4 c5 hc2
                have hcv := HCV.out
                go_wp2_with (first | (go_at_call 21; refine (HUE.out _).mono ?_; rintro e w1 ⟨rfl, hb1⟩; have HB1 := Lib.hid hb1; clear hb1) | (go_at_call 16; refine (HA.out _).mono ?_; rintro e w2 ⟨rfl, hb2⟩; have HB2 := Lib.hid hb2; clear hb2))
                go_ret
                exact ⟨rfl, bchain HB1.out HB2.out⟩
            · have c3' : decide ((55296 : Int) ≤ (n : Int)) = false := by simp; omega
              have HUE : Hid (∀ w : World, Calls Try.prog 21 #[.string (⟨#[97, 38, 35]⟩ ++ B ++ ⟨#[59, 98]⟩)] w fun e w' => e = .returned (.tuple #[.string (⟨#[97]⟩ ++ E ++ ⟨#[98]⟩), .int .i64 0, .int .i64 0]) ∧ Below w.heap.size w w') := Lib.hid (fun w => by
                have := HU.out w
                rw [if_neg (by rintro (h | h | h | h); exact c1 h; exact hc2 h; exact c3 h.1; exact c5 h)] at this
                exact this)
              clear c1 c2 c3 c5 hc2
              have hcv := HCV.out
              go_wp2_with (first | (go_at_call 21; refine (HUE.out _).mono ?_; rintro e w1 ⟨rfl, hb1⟩; have HB1 := Lib.hid hb1; clear hb1) | (go_at_call 16; refine (HA.out _).mono ?_; rintro e w2 ⟨rfl, hb2⟩; have HB2 := Lib.hid hb2; clear hb2))
              go_ret
              exact ⟨rfl, bchain HB1.out HB2.out⟩
      · have hn0' : ((n : Int) == 0) = false := by simp; omega
        have HLB : Hid (ofL (List.replicate z 48 ++ c) = B) := Lib.hid (by rw [HB.out]; unfold numL; rw [if_neg hn0, hc0])
        clear hc hc0 hf hn0 hcl
        go_wp2_with fail
        obtain ⟨wo, rfl⟩ : ∃ x, x = wr := ⟨_, rfl⟩
        go_loopw [5, 7] (fun d k wr => ∃ j : Nat, k = .int .i64 j ∧ d = .string (ofL (List.replicate j 48 ++ c)) ∧ j ≤ z ∧ wr = wo) (fun _ k _ => z - (intOf k).toNat)
        case atStart => exact ⟨0, rfl, rfl, Nat.zero_le _, rfl⟩
        case round =>
          obtain ⟨j, rfl, rfl, hj, rfl⟩ := hrel
          by_cases hjz : j < z
          · have hjz' : (j : Int) < z := by omega
            have hls : (ofL (List.replicate j 48 ++ c)).size ≤ 16 := by rw [ofL_size, List.length_append, List.length_replicate]; have := HLL.out; omega
            go_wp2
            go_roundw
            case rel => exact ⟨j + 1, by go_num, by rw [show (⟨#[48]⟩ : ByteArray) = ofL [48] from rfl, ofL_append]; rfl, by omega, by first | trivial | rfl⟩
            case measure => simp [intOf]; omega
          · have hjz' : ¬ (j : Int) < z := by omega
            obtain rfl : j = z := by omega
            have hBB : ofL (List.replicate j 48 ++ c) = B := HLB.out
            rw [hBB]
            clear hBB
            by_cases c1 : 0 < j
            · have c1' : (0 : Int) < j := by omega
              have HUE : Hid (∀ w : World, Calls Try.prog 21 #[.string (⟨#[97, 38, 35]⟩ ++ B ++ ⟨#[59, 98]⟩)] w fun e w' => e = .returned (.tuple #[.string ⟨#[]⟩, .int .i64 1, .int .i64 3]) ∧ Below w.heap.size w w') := Lib.hid (fun w => by
                have := HU.out w
                rw [if_pos (.inl c1)] at this
                exact this)
              go_wp2_with (first | (go_at_call 21; refine (HUE.out _).mono ?_; rintro e w1 ⟨rfl, hb1⟩; have HB1 := Lib.hid hb1; clear hb1) | (go_at_call 16; refine (HA.out _).mono ?_; rintro e w2 ⟨rfl, hb2⟩; have HB2 := Lib.hid hb2; clear hb2))
              go_ret
              exact ⟨rfl, bchain HB1.out HB2.out⟩
            have c1' : ¬ (0 : Int) < j := by omega
            by_cases c2 : 7 < B.size
            · have c2' : (7 : Int) < B.size := by omega
              have HUE : Hid (∀ w : World, Calls Try.prog 21 #[.string (⟨#[97, 38, 35]⟩ ++ B ++ ⟨#[59, 98]⟩)] w fun e w' => e = .returned (.tuple #[.string ⟨#[]⟩, .int .i64 1, .int .i64 3]) ∧ Below w.heap.size w w') := Lib.hid (fun w => by
                have := HU.out w
                rw [if_pos (.inr (.inl (by rw [HB.out] at c2; exact c2)))] at this
                exact this)
              go_wp2_with (first | (go_at_call 21; refine (HUE.out _).mono ?_; rintro e w1 ⟨rfl, hb1⟩; have HB1 := Lib.hid hb1; clear hb1) | (go_at_call 16; refine (HA.out _).mono ?_; rintro e w2 ⟨rfl, hb2⟩; have HB2 := Lib.hid hb2; clear hb2))
              go_ret
              exact ⟨rfl, bchain HB1.out HB2.out⟩
            have c2' : ¬ (7 : Int) < B.size := by omega
            by_cases c5 : 1114111 < n
            · have c5' : (1114111 : Int) < n := by omega
              have c3' : (55296 : Int) ≤ n := by omega
              have c4' : ¬ (n : Int) ≤ 57343 := by omega
              have HUE : Hid (∀ w : World, Calls Try.prog 21 #[.string (⟨#[97, 38, 35]⟩ ++ B ++ ⟨#[59, 98]⟩)] w fun e w' => e = .returned (.tuple #[.string ⟨#[]⟩, .int .i64 1, .int .i64 3]) ∧ Below w.heap.size w w') := Lib.hid (fun w => by
                have := HU.out w
                rw [if_pos (.inr (.inr (.inr c5)))] at this
                exact this)
              go_wp2_with (first | (go_at_call 21; refine (HUE.out _).mono ?_; rintro e w1 ⟨rfl, hb1⟩; have HB1 := Lib.hid hb1; clear hb1) | (go_at_call 16; refine (HA.out _).mono ?_; rintro e w2 ⟨rfl, hb2⟩; have HB2 := Lib.hid hb2; clear hb2))
              go_ret
              exact ⟨rfl, bchain HB1.out HB2.out⟩
            have c5' : ¬ (1114111 : Int) < n := by omega
            have hc2 : ¬ 7 < (numL n j).length := by rw [HB.out] at c2; exact c2
            by_cases c3 : 55296 ≤ n
            · have c3' : (55296 : Int) ≤ n := by omega
              by_cases c4 : n ≤ 57343
              · have c4' : (n : Int) ≤ 57343 := by omega
                have HUE : Hid (∀ w : World, Calls Try.prog 21 #[.string (⟨#[97, 38, 35]⟩ ++ B ++ ⟨#[59, 98]⟩)] w fun e w' => e = .returned (.tuple #[.string ⟨#[]⟩, .int .i64 1, .int .i64 3]) ∧ Below w.heap.size w w') := Lib.hid (fun w => by
                  have := HU.out w
                  rw [if_pos (.inr (.inr (.inl ⟨c3, c4⟩)))] at this
                  exact this)
                go_wp2_with (first | (go_at_call 21; refine (HUE.out _).mono ?_; rintro e w1 ⟨rfl, hb1⟩; have HB1 := Lib.hid hb1; clear hb1) | (go_at_call 16; refine (HA.out _).mono ?_; rintro e w2 ⟨rfl, hb2⟩; have HB2 := Lib.hid hb2; clear hb2))
                go_ret
                exact ⟨rfl, bchain HB1.out HB2.out⟩
              · have c4' : ¬ (n : Int) ≤ 57343 := by omega
                have HUE : Hid (∀ w : World, Calls Try.prog 21 #[.string (⟨#[97, 38, 35]⟩ ++ B ++ ⟨#[59, 98]⟩)] w fun e w' => e = .returned (.tuple #[.string (⟨#[97]⟩ ++ E ++ ⟨#[98]⟩), .int .i64 0, .int .i64 0]) ∧ Below w.heap.size w w') := Lib.hid (fun w => by
                  have := HU.out w
                  rw [if_neg (by rintro (h | h | h | h); exact c1 h; exact hc2 h; exact c4 h.2; exact c5 h)] at this
                  exact this)
                clear c1 c2 c3 c4 c5 hc2
                have hcv := HCV.out
                go_wp2_with (first | (go_at_call 21; refine (HUE.out _).mono ?_; rintro e w1 ⟨rfl, hb1⟩; have HB1 := Lib.hid hb1; clear hb1) | (go_at_call 16; refine (HA.out _).mono ?_; rintro e w2 ⟨rfl, hb2⟩; have HB2 := Lib.hid hb2; clear hb2))
                go_ret
                exact ⟨rfl, bchain HB1.out HB2.out⟩
            · have c3' : decide ((55296 : Int) ≤ (n : Int)) = false := by simp; omega
              have HUE : Hid (∀ w : World, Calls Try.prog 21 #[.string (⟨#[97, 38, 35]⟩ ++ B ++ ⟨#[59, 98]⟩)] w fun e w' => e = .returned (.tuple #[.string (⟨#[97]⟩ ++ E ++ ⟨#[98]⟩), .int .i64 0, .int .i64 0]) ∧ Below w.heap.size w w') := Lib.hid (fun w => by
                have := HU.out w
                rw [if_neg (by rintro (h | h | h | h); exact c1 h; exact hc2 h; exact c3 h.1; exact c5 h)] at this
                exact this)
              clear c1 c2 c3 c5 hc2
              have hcv := HCV.out
              go_wp2_with (first | (go_at_call 21; refine (HUE.out _).mono ?_; rintro e w1 ⟨rfl, hb1⟩; have HB1 := Lib.hid hb1; clear hb1) | (go_at_call 16; refine (HA.out _).mono ?_; rintro e w2 ⟨rfl, hb2⟩; have HB2 := Lib.hid hb2; clear hb2))
              go_ret
              exact ⟨rfl, bchain HB1.out HB2.out⟩
end Go.Proofs.Ytaaegelefknkeab
