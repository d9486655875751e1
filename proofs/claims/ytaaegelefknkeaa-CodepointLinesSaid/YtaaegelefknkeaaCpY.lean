/- The walk of the law CodepointLines. -/
import Derived.Test.YtaaegelefknkeaaCpU
import Derived.Test.YtaaegelefknkeaaLin
namespace Go.Proofs.Ytaaegelefknkeaa
open Go.RowKit Go.Shelf
set_option linter.unusedSimpArgs false

/-- What the loop over the bytes counts. -/
def lfN (s : ByteArray) (k : Nat) : Nat := lf ((lst s).take k)
theorem lfN_zero (s : ByteArray) : lfN s 0 = 0 := rfl
theorem lst_get (s : ByteArray) (k : Nat) (h : k < s.size) : (lst s)[k]? = some (s[k]'h) := by
  have hk : k < (lst s).length := h
  rw [List.getElem?_eq_getElem hk]
  rfl
theorem lfN_step (s : ByteArray) (k : Nat) (h : k < s.size) : lfN s (k + 1) = lfN s k + if (s[k]'h).toNat = 10 then 1 else 0 := by
  unfold lfN
  have hk : k < (lst s).length := h
  have hg : (lst s)[k] = s[k]'h := by
    have := lst_get s k h
    rw [List.getElem?_eq_getElem hk] at this
    exact Option.some.inj this
  rw [List.take_succ_eq_append_getElem hk, lf_append, hg]
  congr 1
  unfold lf
  by_cases e : (s[k]'h).toNat = 10 <;> simp [e]
theorem lfN_all (s : ByteArray) : lfN s s.size = lf (lst s) := by
  unfold lfN
  rw [List.take_of_length_le (by rw [lst_length]; exact Nat.le_refl _)]
theorem lf_le (l : List UInt8) : lf l ≤ l.length := List.length_filter_le _ _

theorem posP_bounds (at_ : Int) : ∀ xs off l c, l ≤ (posP at_ off xs l c).1 ∧ (posP at_ off xs l c).1 ≤ l + (xs.length : Nat) ∧ ((1 : Int) ≤ c → 1 ≤ (posP at_ off xs l c).2 ∧ (posP at_ off xs l c).2 ≤ c + (xs.length : Nat)) := by
  intro xs
  induction xs with
  | nil => intro off l c; simp [posP]
  | cons x xs ih =>
    intro off l c
    rw [posP, List.length_cons]
    split
    · exact ⟨by omega, by show l ≤ _; omega, fun h => ⟨h, by show c ≤ _; omega⟩⟩
    · split
      · obtain ⟨h1, h2, h3⟩ := ih (off + x.2.length) (l + 1) 1
        have h3 := h3 (by omega)
        exact ⟨by omega, by omega, fun h => by omega⟩
      · obtain ⟨h1, h2, h3⟩ := ih (off + x.2.length) l (c + 1)
        exact ⟨by omega, by omega, fun h => by have h3 := h3 (by omega); omega⟩
theorem posF_bounds (s : ByteArray) (hs : s.size ≤ 400) (at_ : Int) : 1 ≤ (posF s at_).1 ∧ (posF s at_).1 ≤ 401 ∧ 1 ≤ (posF s at_).2 ∧ (posF s at_).2 ≤ 401 := by
  have h := posP_bounds at_ (pcs s) 0 1 1
  rw [← posF_P, pcs_len] at h
  have hl := unitsFrom_len s s.size 0
  unfold unitsOf at h
  have h3 := h.2.2 (by omega)
  omega

/-- What the calls give. -/
structure LinK (s t : ByteArray) (a : Nat) (l c L : Int) : Prop where
  p : ∀ w, Calls Try.prog 14 #[.string t, .int .i64 a] w fun e w' => e = .returned (.agg #[.int .i64 l, .int .i64 c]) ∧ Below w.heap.size w w'
  q : ∀ w, Calls Try.prog 14 #[.string (s ++ ⟨#[10]⟩ ++ t), .int .i64 ((s.size : Int) + 1 + a)] w fun e w' => e = .returned (.agg #[.int .i64 (l + (L + 1)), .int .i64 c]) ∧ Below w.heap.size w w'
  long : (decide (400 < s.size) || decide (400 < t.size)) = false
  L : L = lfN s s.size

theorem linK {s t : ByteArray} {a : Nat} (hs : s.size ≤ 400) (ht : t.size ≤ 400) : LinK s t a (posF t a).1 (posF t a).2 (lfN s s.size : Nat) := by
  refine ⟨fun w => Position_any t a (by omega) w, fun w => ?_, by simp; omega, rfl⟩
  have h := Position_any (s ++ ⟨#[10]⟩ ++ t) ((s.size : Int) + 1 + a) (by rw [ByteArray.size_append, ByteArray.size_append, show (ByteArray.mk #[10]).size = 1 from rfl]; omega) w
  rw [pos_joined s t ⟨#[10]⟩ rfl (a : Int) (by omega)] at h
  rw [lfN_all]
  exact h

theorem PB.below {W W' : World} {k : Nat} {l c : Int} (h : PB W k l c) (hb : Below W.heap.size W W') : PB W' k l c := (hb.block _ (Array.getElem?_eq_some_iff.1 h).1).trans h

set_option maxHeartbeats 4000000 in
theorem walk_Lines (s t : ByteArray) (at0 : Int) (hi0 : -9223372036854775808 ≤ at0) (hi1 : at0 ≤ 9223372036854775807) (w : World) :
    Calls Try.prog 4 #[.string s, .string t, .int .i64 at0] w fun e w' => e = .returned (.bool true) ∧ Below w.heap.size w w' := by
  by_cases hl : 400 < s.size ∨ 400 < t.size
  · have hl1 : (decide (400 < s.size) || decide (400 < t.size)) = true := by simpa using hl
    have HL := Lib.hid hl1
    clear hl hl1
    go_enter Try.func4, Try.ntmps4
    go_wp2_with (go_at_call 13; refine (long2 s t w true HL.out).mono ?_; rintro e w' ⟨rfl, rfl⟩)
    go_ret
    exact ⟨rfl, b0 _ _⟩
  · have hs : s.size ≤ 400 := by omega
    have ht : t.size ≤ 400 := by omega
    have hl1 : (decide (400 < s.size) || decide (400 < t.size)) = false := by simp; omega
    have HL := Lib.hid hl1
    clear hl hl1
    by_cases h0 : at0 < 0
    · go_enter Try.func4, Try.ntmps4
      go_wp2_with (go_at_call 13; refine (long2 s t w false HL.out).mono ?_; rintro e w' ⟨rfl, rfl⟩)
      go_ret
      exact ⟨rfl, b0 _ _⟩
    · by_cases h1 : (t.size : Int) < at0
      · go_enter Try.func4, Try.ntmps4
        go_wp2_with (go_at_call 13; refine (long2 s t w false HL.out).mono ?_; rintro e w' ⟨rfl, rfl⟩)
        go_ret
        exact ⟨rfl, b0 _ _⟩
      · obtain ⟨a, rfl⟩ : ∃ a : Nat, at0 = a := ⟨at0.toNat, by omega⟩
        have hk := linK (s := s) (t := t) (a := a) hs ht
        have hb := posF_bounds t ht a
        have hL : lfN s s.size ≤ 400 := by rw [lfN_all]; have := lf_le (lst s); rw [lst_length] at this; omega
        have hN := posF_next t a
        have ha : a ≤ t.size := by omega
        generalize hp : posF t a = p at hk hb hN
        obtain ⟨l, c⟩ := p
        generalize hn : lfN s s.size = L at hk hL
        dsimp only at hk hb hN
        have hb1 := hb.1
        have hb2 := hb.2.1
        have hb3 := hb.2.2.1
        have hb4 := hb.2.2.2
        have HK := Lib.hid hk
        have HN := Lib.hid hN
        have Hn := Lib.hid hn
        clear hk hN hn hb hp hi0 hi1 h0 h1
        go_enter Try.func4, Try.ntmps4
        go_wp2_with (first | (go_at_call 13; refine (long2 s t w false HL.out).mono ?_; rintro e w' ⟨rfl, rfl⟩; have HBc := b0 w (.cells #[.string s, .string t] 9)) | (go_at_call 14; with_reducible refine (HK.out.p _).mono ?_; rintro e w' ⟨rfl, hb⟩; replace HBc := bchain HBc hb; clear hb) | (go_at_call 14; with_reducible refine (HK.out.q _).mono ?_; rintro e w' ⟨rfl, hb⟩; replace HBc := bchain HBc hb; clear hb))
        obtain ⟨B, hB⟩ : ∃ B, B = w'.heap.size := ⟨_, rfl⟩
        rw [← hB]
        have HB := Lib.hid hB
        obtain ⟨W2, hW2⟩ : ∃ W2, W2 = (w'.alloc (.cells #[.int .i64 l, .int .i64 c] 24)).alloc (.cells #[.int .i64 (l + ((L : Int) + 1)), .int .i64 c] 24) := ⟨_, rfl⟩
        rw [← hW2]
        have hpb : PB W2 B l c := by
          rw [hW2, hB]
          exact (Below.heap_alloc _ _ _ (by simp)).trans (World.alloc_heap_new w' _)
        have hqb : PB W2 (B + 1) (l + ((L : Int) + 1)) c := by
          rw [hW2, hB]
          have := World.alloc_heap_new (w'.alloc (.cells #[.int .i64 l, .int .i64 c] 24)) (.cells #[.int .i64 (l + ((L : Int) + 1)), .int .i64 c] 24)
          rwa [World.size_alloc] at this
        have hB2 : Below w.heap.size w W2 := by
          rw [hW2]
          exact (HBc.alloc (HBc.size) _).alloc (by rw [World.size_alloc]; exact Nat.le_succ_of_le HBc.size) _
        have Hpb := Lib.hid hpb
        have Hqb := Lib.hid hqb
        have HB2 := Lib.hid hB2
        clear hB hW2 hpb hqb hB2 HBc
        go_loopw [9, 10] (fun n i wr => ∃ (k : Nat), k ≤ s.size ∧ i = .int .i64 k ∧ n = .int .i64 ((lfN s k : Nat) + 1 : Int) ∧ Below W2.heap.size W2 wr) (fun _ i _ => s.size - (intOf i).toNat)
        case atStart => exact ⟨0, by omega, rfl, rfl, Below.refl _ _⟩
        case round =>
          obtain ⟨k, hk, rfl, rfl, hbl⟩ := hrel
          have hlk : lfN s k ≤ 400 := by unfold lfN; have := lf_le ((lst s).take k); rw [List.length_take] at this; omega
          have Hbl := Lib.hid hbl
          clear hbl
          by_cases hk1 : k < s.size
          · have Hst := Lib.hid (lfN_step s k hk1)
            by_cases h10 : (s[k]'hk1).toNat = 10
            · have e1 : (((s[k]'hk1).toNat : Int) == 10) = true := by simp [h10]
              have H10 := Lib.hid h10
              clear h10
              go_wp2
              go_roundw
              case rel => exact ⟨k + 1, by omega, by go_num, by have := Hst.out; rw [if_pos H10.out] at this; rw [this]; go_num, Hbl.out⟩
              case measure => simp [intOf]; omega
            · have e1 : (((s[k]'hk1).toNat : Int) == 10) = false := by simp; omega
              have H10 := Lib.hid h10
              clear h10
              go_wp2
              go_roundw
              case rel => exact ⟨k + 1, by omega, by go_num, by have := Hst.out; rw [if_neg H10.out] at this; rw [this]; go_num, Hbl.out⟩
              case measure => simp [intOf]; omega
          · obtain rfl : k = s.size := by omega
            rw [Hn.out]
            have hp2 : PB wr B l c := (Hbl.out.block _ (Array.getElem?_eq_some_iff.1 Hpb.out).1).trans Hpb.out
            have hq2 : PB wr (B + 1) (l + ((L : Int) + 1)) c := (Hbl.out.block _ (Array.getElem?_eq_some_iff.1 Hqb.out).1).trans Hqb.out
            have hc0 := hp2.c0
            have hc1 := hp2.c1
            have hd0 := hq2.c0
            have hd1 := hq2.c1
            have hf0 := hp2.fz 0
            have hf1 := hp2.fz 1
            have hg0 := hq2.fz 0
            have hg1 := hq2.fz 1
            have hlt : B + 1 < wr.heap.size := (Array.getElem?_eq_some_iff.1 hq2).1
            have hbw : Below w.heap.size w wr := bchain HB2.out Hbl.out
            have HBw := Lib.hid hbw
            have Hp2 := Lib.hid hp2
            have Hq2 := Lib.hid hq2
            clear hp2 hq2 hbw
            by_cases ha2 : a < t.size
            · have hN := HN.out ha2
              by_cases h10 : (t[a]'ha2).toNat = 10
              · have e1 : (((t[a]'ha2).toNat : Int) == 10) = true := by simp [h10]
                have hv := hN.1 (by rw [lst_get t a ha2]; exact congrArg some (UInt8.toNat_inj.1 h10))
                have hc : ∀ w, Calls Try.prog 14 #[.string t, .int .i64 ((a : Int) + 1)] w fun e w' => e = .returned (.agg #[.int .i64 (l + 1), .int .i64 1]) ∧ Below w.heap.size w w' := fun w => by
                  have h := Position_any t ((a : Int) + 1) (by omega) w
                  rw [hv] at h
                  exact h
                have HC := Lib.hid hc
                clear hN hv hc h10
                go_wp2_with (first | (go_at_call 14; with_reducible refine (HC.out _).mono ?_; rintro e w5 ⟨rfl, hb⟩; have HBc := Lib.hid (bchain HBw.out hb); have hp5 := PB.below Hp2.out hb; have k0 := hp5.c0; have k1 := hp5.c1; have k2 := hp5.fz 0; have k3 := hp5.fz 1; have k4 : B < w5.heap.size := (by have := hb.size; omega); clear hp5 hb) | (go_at_call 16; refine (awake_any _).mono ?_; rintro e w' ⟨rfl, hb⟩))
                go_ret
                exact ⟨rfl, bchain (HBc.out.alloc (HBc.out.size) _) hb⟩
              · have e1 : (((t[a]'ha2).toNat : Int) == 10) = false := by simp; omega
                have hv := hN.2 (by rw [lst_get t a ha2]; intro k; exact h10 (by rw [Option.some.inj k]; rfl))
                generalize hq : posF t ((a : Int) + 1) = q at hv
                obtain ⟨q1, q2⟩ := q
                obtain ⟨hv1, hv2⟩ := hv
                dsimp only at hv1 hv2
                have hc : ∀ w, Calls Try.prog 14 #[.string t, .int .i64 ((a : Int) + 1)] w fun e w' => e = .returned (.agg #[.int .i64 l, .int .i64 q2]) ∧ Below w.heap.size w w' := fun w => by
                  have h := Position_any t ((a : Int) + 1) (by omega) w
                  rw [hq, hv1] at h
                  exact h
                clear hN hq hv1 h10
                rcases hv2 with hv2 | hv2
                · rw [hv2] at hc
                  have HC := Lib.hid hc
                  clear hc hv2
                  go_wp2_with (first | (go_at_call 14; with_reducible refine (HC.out _).mono ?_; rintro e w5 ⟨rfl, hb⟩; have HBc := Lib.hid (bchain HBw.out hb); have hp5 := PB.below Hp2.out hb; have k0 := hp5.c0; have k1 := hp5.c1; have k2 := hp5.fz 0; have k3 := hp5.fz 1; have k4 : B < w5.heap.size := (by have := hb.size; omega); clear hp5 hb) | (go_at_call 16; refine (awake_any _).mono ?_; rintro e w' ⟨rfl, hb⟩))
                  go_ret
                  exact ⟨rfl, bchain (HBc.out.alloc (HBc.out.size) _) hb⟩
                · rw [hv2] at hc
                  have HC := Lib.hid hc
                  clear hc hv2
                  have e2 : ((c + 1 : Int) == c) = false := by simp; omega
                  go_wp2_with (first | (go_at_call 14; with_reducible refine (HC.out _).mono ?_; rintro e w5 ⟨rfl, hb⟩; have HBc := Lib.hid (bchain HBw.out hb); have hp5 := PB.below Hp2.out hb; have k0 := hp5.c0; have k1 := hp5.c1; have k2 := hp5.fz 0; have k3 := hp5.fz 1; have k4 : B < w5.heap.size := (by have := hb.size; omega); clear hp5 hb) | (go_at_call 16; refine (awake_any _).mono ?_; rintro e w' ⟨rfl, hb⟩))
                  go_ret
                  exact ⟨rfl, bchain (HBc.out.alloc (HBc.out.size) _) hb⟩
            · go_wp2_with (go_at_call 16; refine (awake_any _).mono ?_; rintro e w' ⟨rfl, hb⟩)
              go_ret
              exact ⟨rfl, bchain HBw.out hb⟩
end Go.Proofs.Ytaaegelefknkeaa
