/- The law MarkupFormats, walked. -/
import Derived.Test.YtaaegelefknkeabNtP
namespace Go.Proofs.Ytaaegelefknkeab
open Go.RowKit Go.Shelf
set_option linter.unusedSimpArgs false
set_option linter.unusedVariables false

theorem own_any (c : Bool) (n : ByteArray) (x : Option Addr) (y z : Nat) (w : World) :
    Calls Try.prog 29 #[.agg #[.bool c, .string n, .slice x y z]] w fun e w' => e = .returned (.agg #[.bool c, .string n, .slice x y z]) ∧ Below w.heap.size w w' := by
  go_enter Try.func29, Try.ntmps29
  go_wp2
  exact bodyPost_ret (v := .agg #[.bool c, .string n, .slice x y z]) (by simp [results, Try.results29, go_sem]) rfl ⟨rfl, bchain (b0 w _) (b0 _ _)⟩

set_option maxHeartbeats 1000000 in
theorem large_some (c : Bool) (n : ByteArray) (l : List Pr) (v : Value) (a : Option Addr) (cap : Nat) (w : World) (h : RdP w v l a cap) :
    Calls Try.prog 26 #[.agg #[.bool c, .string n, v]] w fun e w' => (∃ b, e = .returned (.bool b)) ∧ Below w.heap.size w w' := by
  obtain rfl := h.eq
  have hmx : l.length ≤ 9223372036854775807 := Nat.le_trans h.le h.max
  have HR := Lib.hid h
  have hT := heap_alloc_new w (.cells #[.bool c, .string n, .slice a l.length cap] 33)
  have hbT := b0 w (.cells #[.bool c, .string n, .slice a l.length cap] 33)
  have HT := Lib.hid hT
  have HBT := Lib.hid hbT
  clear h hT hbT
  go_enter Try.func26, Try.ntmps26
  go_wp2_with fail
  go_loopw [3, 12] (fun m i wr => ∃ (k : Nat) (s : Int), i = .int .i64 k ∧ m = .int .i64 s ∧ k ≤ l.length ∧ Below w.heap.size w wr ∧ wr.heap[w.heap.size]? = some (.cells #[.bool c, .string n, .slice a l.length cap] 33 (0, 0))) (fun _ i _ => l.length - (intOf i).toNat)
  case atStart => exact ⟨0, n.size, rfl, rfl, by omega, HBT.out, HT.out⟩
  case round =>
    obtain ⟨k, s, rfl, rfl, hk, hb, hrow⟩ := hrel
    by_cases hk1 : k < l.length
    · have hk1' : (k : Int) < l.length := by omega
      obtain ⟨p, hp⟩ : ∃ p, l[k]? = some p := ⟨l[k], List.getElem?_eq_getElem hk1⟩
      obtain ⟨b, o, rfl, hc0, hc1⟩ := (HR.out.below hb).cells k p hp
      have HB := Lib.hid hb
      have HROW := Lib.hid hrow
      have hlt : w.heap.size < wr.heap.size := (Array.getElem?_eq_some_iff.1 hrow).1
      clear hp hb hrow
      obtain ⟨t, ht⟩ : ∃ t : Int, t = IntKind.i64.wrap (s + IntKind.i64.wrap ((p.1.size : Int) + p.2.size)) := ⟨_, rfl⟩
      go_wp2
      all_goals first
        | (go_ret; exact ⟨by first | exact Or.inr rfl | exact ⟨true, rfl⟩, HB.out.alloc HB.out.size _⟩)
        | (exact ⟨⟨k + 1, _, by go_num, rfl, by omega, HB.out.alloc HB.out.size _, ((b0 wr _).block _ hlt).trans HROW.out⟩, by simp [intOf]; omega⟩)
    · have hk1' : ¬ (k : Int) < l.length := by omega
      obtain ⟨z0, z1, z2, zf0, zf1, zf2⟩ := tag_of_row hrow
      have HB := Lib.hid hb
      clear hb hrow
      by_cases h2 : (2000 : Int) < s
      · go_wp2
        go_ret
        exact ⟨by first | exact Or.inr rfl | exact Or.inl rfl | exact ⟨_, rfl⟩, HB.out⟩
      · by_cases h12 : (12 : Int) < l.length
        · go_wp2
          go_ret
          exact ⟨by first | exact Or.inr rfl | exact Or.inl rfl | exact ⟨_, rfl⟩, HB.out⟩
        · go_wp2
          go_ret
          exact ⟨by first | exact Or.inr rfl | exact Or.inl rfl | exact ⟨_, rfl⟩, HB.out⟩

set_option maxHeartbeats 1000000 in
theorem walk_Formats (c : Bool) (n : ByteArray) (l : List Pr) (v : Value) (a : Option Addr) (cap : Nat) (w : World) (h : RdP w v l a cap) :
    Calls Try.prog 11 #[.agg #[.bool c, .string n, v]] w fun e w' => e = .returned (.bool true) ∧ Below w.heap.size w w' := by
  have hbig := fun w h => large_some c n l v a cap w h
  have hfmt := fun w h => FormatTag_all c n l v a cap w h
  have hrf := fun w h => RFormatTag_all c n l v a cap w h
  have hT := heap_alloc_new w (.cells #[.bool c, .string n, v] 33)
  have hbT := b0 w (.cells #[.bool c, .string n, v] 33)
  obtain ⟨W1, hW1⟩ : ∃ W1, w.alloc (.cells #[.bool c, .string n, v] 33) = W1 := ⟨_, rfl⟩
  rw [hW1] at hT hbT
  have hR1 := h.below hbT
  obtain rfl := h.eq
  generalize fmtF (c, n, l) = X at hfmt hrf
  have HW1 := Lib.hid hW1
  have HT := Lib.hid hT
  have HBT := Lib.hid hbT
  have HR1 := Lib.hid hR1
  have HBIG := Lib.hid hbig
  have HF := Lib.hid hfmt
  have HRF := Lib.hid hrf
  have HA := Lib.hid awake_any
  have HOW := Lib.hid (own_any c n a l.length cap)
  clear h hT hbT hR1 hW1 hbig hfmt hrf
  go_enter Try.func11, Try.ntmps11
  go_wp2_with fail
  rw [HW1.out]
  refine (HBIG.out _ HR1.out).mono ?_
  rintro e w2 ⟨⟨bb, rfl⟩, hb2⟩
  have hT2 := (hb2.block _ (Array.getElem?_eq_some_iff.1 HT.out).1).trans HT.out
  have HR2 := Lib.hid (HR1.out.below hb2)
  have HB2 := Lib.hid hb2
  obtain ⟨z0, z1, z2, zf0, zf1, zf2⟩ := tag_of_row hT2
  have HT2 := Lib.hid hT2
  clear hT2 hb2
  dsimp only
  cases bb with
  | true =>
    go_wp2
    go_ret
    exact ⟨rfl, bchain HBT.out HB2.out⟩
  | false =>
    go_wp2_with (first | (go_at_call 27; refine (HF.out _ HR2.out).mono ?_; rintro e w3 ⟨rfl, hb3⟩; have hT3 := (hb3.block _ (Array.getElem?_eq_some_iff.1 HT2.out).1).trans HT2.out; have HR3 := Lib.hid (HR2.out.below hb3); have HB3 := Lib.hid hb3; obtain ⟨y0, y1, y2, yf0, yf1, yf2⟩ := tag_of_row hT3; clear hT3 hb3) | (go_at_call 29; refine (HOW.out _).mono ?_; rintro e w4 ⟨rfl, hb4⟩; have HR4 := Lib.hid (HR3.out.below hb4); have HB4 := Lib.hid hb4; clear hb4) | (go_at_call 28; refine (HRF.out _ HR4.out).mono ?_; rintro e w5 ⟨rfl, hb5⟩; have HB5 := Lib.hid hb5; clear hb5) | (go_at_call 16; refine (HA.out _).mono ?_; rintro e w6 ⟨rfl, hb6⟩; have HB6 := Lib.hid hb6; clear hb6))
    go_ret
    exact ⟨rfl, bchain (bchain (bchain (bchain (bchain HBT.out HB2.out) HB3.out) HB4.out) HB5.out) HB6.out⟩
end Go.Proofs.Ytaaegelefknkeab
