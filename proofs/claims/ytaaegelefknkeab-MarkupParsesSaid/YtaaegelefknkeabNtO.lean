/- check and FormatTag, of the program and of the reference, for strings of any length. -/
import Derived.Test.YtaaegelefknkeabNtM
namespace Go.Proofs.Ytaaegelefknkeab
open Go.RowKit Go.Shelf
set_option linter.unusedSimpArgs false
set_option linter.unusedVariables false

theorem vnF_long {s : ByteArray} (h : 32 < s.size) : vnF s = false := by
  cases hv : vnF s with
  | false => rfl
  | true => have := (vnF_size hv).2; omega
set_option maxHeartbeats 1000000 in
theorem ValidName_all (s : ByteArray) (w : World) : Calls Try.prog 14 #[.string s] w fun e w' => e = .returned (.bool (vnF s)) ∧ w = w' := by
  by_cases h : 32 < s.size
  · rw [vnF_long h]
    have h1 : ¬ (s.size : Int) < 1 := by omega
    have h2 : (32 : Int) < s.size := by omega
    go_enter Try.func14, Try.ntmps14
    go_wp2
    go_ret
    exact ⟨rfl, rfl⟩
  · exact ValidName_any s (by omega) w
set_option maxHeartbeats 1000000 in
theorem RValidName_all (s : ByteArray) (w : World) : Calls Try.prog 15 #[.string s] w fun e w' => e = .returned (.bool (vnF s)) ∧ w = w' := by
  by_cases h : 32 < s.size
  · rw [vnF_long h]
    have h1 : ¬ (s.size : Int) < 1 := by omega
    have h2 : (32 : Int) < s.size := by omega
    go_enter Try.func15, Try.ntmps15
    go_wp2
    go_ret
    exact ⟨rfl, rfl⟩
  · exact RValidName_any s (by omega) w
set_option maxHeartbeats 1000000 in
theorem ValidValue_all (s : ByteArray) (w : World) : Calls Try.prog 17 #[.string s] w fun e w' => e = .returned (.int .i64 (vvF s)) ∧ Below w.heap.size w w' := by
  by_cases h : 120 < s.size
  · unfold vvF
    rw [if_pos h]
    have hl' : (120 : Int) < s.size := by omega
    go_enter Try.func17, Try.ntmps17
    go_wp2
    go_ret
    exact ⟨rfl, Below.refl _ _⟩
  · exact ValidValue_any s (by omega) w
set_option maxHeartbeats 1000000 in
theorem RValidValue_all (s : ByteArray) (w : World) : Calls Try.prog 18 #[.string s] w fun e w' => e = .returned (.int .i64 (vvF s)) ∧ Below w.heap.size w w' := by
  by_cases h : 120 < s.size
  · unfold vvF
    rw [if_pos h]
    have hl' : (120 : Int) < s.size := by omega
    go_enter Try.func18, Try.ntmps18
    go_wp2
    go_ret
    exact ⟨rfl, Below.refl _ _⟩
  · exact RValidValue_any s (by omega) w

set_option maxHeartbeats 1000000 in
theorem check_all (c : Bool) (n : ByteArray) (l : List Pr) (v : Value) (a : Option Addr) (cap : Nat) (w : World) (h : RdP w v l a cap) :
    Calls Try.prog 46 #[.agg #[.bool c, .string n, v]] w fun e w' => e = .returned (.int .i64 (chkF c n l)) ∧ Below w.heap.size w w' := by
  obtain rfl := h.eq
  have hmx : l.length ≤ 9223372036854775807 := Nat.le_trans h.le h.max
  have HR := Lib.hid h
  have HV := Lib.hid (ValidName_all n)
  clear h
  unfold chkF
  cases hv : vnF n with
  | false =>
    rw [hv] at HV
    rw [if_pos rfl]
    clear hv
    go_enter Try.func46, Try.ntmps46
    go_wp2_with (go_at_call 14; refine (HV.out _).mono ?_; rintro e w1 ⟨rfl, rfl⟩)
    go_ret
    exact ⟨rfl, b0 w _⟩
  | true =>
    rw [hv] at HV
    rw [if_neg (by simp)]
    clear hv
    by_cases h0 : (c && decide (0 < l.length)) = true
    · rw [if_pos h0]
      have hc : c = true := by cases c with | true => rfl | false => simp at h0
      subst hc
      have hl0 : (0 : Int) < l.length := by simp at h0; omega
      clear h0
      go_enter Try.func46, Try.ntmps46
      go_wp2_with (go_at_call 14; refine (HV.out _).mono ?_; rintro e w1 ⟨rfl, rfl⟩)
      go_ret
      exact ⟨rfl, b0 w _⟩
    · rw [if_neg h0]
      by_cases h8 : 8 < l.length
      · rw [if_pos h8]
        have hc : c = false := by cases c with | false => rfl | true => (simp at h0; rw [h0] at h8; simp at h8)
        subst hc
        have h8' : (8 : Int) < l.length := by omega
        clear h0
        go_enter Try.func46, Try.ntmps46
        go_wp2_with (go_at_call 14; refine (HV.out _).mono ?_; rintro e w1 ⟨rfl, rfl⟩)
        go_ret
        exact ⟨rfl, b0 w _⟩
      · rw [if_neg h8]
        have h8' : ¬ (8 : Int) < l.length := by omega
        obtain ⟨r, hr⟩ : ∃ r, r = chkK l l.length 0 := ⟨_, rfl⟩
        rw [← hr]
        have HE := Lib.hid hr
        have hT := heap_alloc_new w (.cells #[.bool c, .string n, .slice a l.length cap] 33)
        have hbT := b0 w (.cells #[.bool c, .string n, .slice a l.length cap] 33)
        clear hr
        have hc0 : c = true → ¬ (0 : Int) < l.length := by intro e; subst e; simp at h0; rw [h0]; decide
        have HT := Lib.hid hT
        have HBT := Lib.hid hbT
        clear hT hbT h0
        go_enter Try.func46, Try.ntmps46
        cases c with
        | true =>
          have hl0 : l = [] := List.eq_nil_of_length_eq_zero (by have := hc0 rfl; omega)
          subst hl0
          have hr0 : r = 0 := HE.out
          subst hr0
          clear hc0 HE HR hmx
          simp only [List.length_nil] at *
          go_wp2_with (go_at_call 14; refine (HV.out _).mono ?_; rintro e w1 ⟨rfl, rfl⟩)
          clear HV
          go_loopw [27] (fun i wr => i = .int .i64 0 ∧ Below w.heap.size w wr) (fun i _ => 0)
          case atStart => exact ⟨rfl, HBT.out⟩
          case round =>
            obtain ⟨rfl, hb⟩ := hrel
            have HB := Lib.hid hb
            clear hb
            go_wp2
            go_ret
            exact ⟨rfl, HB.out⟩
        | false =>
          clear hc0
          go_wp2_with (go_at_call 14; refine (HV.out _).mono ?_; rintro e w1 ⟨rfl, rfl⟩)
          clear HV
          try clear hc1
          go_loopw [27] (fun i wr => ∃ k f : Nat, i = .int .i64 k ∧ k ≤ l.length ∧ l.length ≤ k + f ∧ chkK l f k = r ∧ Below w.heap.size w wr ∧ wr.heap[w.heap.size]? = some (.cells #[.bool false, .string n, .slice a l.length cap] 33 (0, 0))) (fun i _ => l.length - (intOf i).toNat)
          case atStart => exact ⟨0, l.length, rfl, by omega, by omega, HE.out.symm, HBT.out, HT.out⟩
          case round =>
            obtain ⟨k, f, rfl, hk, hf, hr, hb, hrow⟩ := hrel
            by_cases hk1 : k < l.length
            · have hk1' : (k : Int) < l.length := by omega
              obtain ⟨f, rfl⟩ : ∃ g, f = g + 1 := ⟨f - 1, by omega⟩
              obtain ⟨p, hp⟩ : ∃ p, l[k]? = some p := ⟨l[k], List.getElem?_eq_getElem hk1⟩
              obtain ⟨b, o, rfl, hc0, hc1⟩ := (HR.out.below hb).cells k p hp
              rw [chkK, hp] at hr
              dsimp only at hr
              have hsl := slice31h b o l.length cap k hk (HR.out.le)
              have HB := Lib.hid hb
              have HROW := Lib.hid hrow
              have HSL := Lib.hid hsl
              clear hb hrow hsl hp
              cases hv1 : vnF p.1 with
              | false =>
                rw [hv1, if_pos rfl] at hr
                have HV1 : Hid (∀ w : World, Calls Try.prog 14 #[.string p.1] w fun e w' => e = .returned (.bool false) ∧ w = w') := Lib.hid (by rw [← hv1]; exact ValidName_all p.1)
                have HRR := Lib.hid hr
                clear hr hv1
                go_wp2_with (go_at_call 14; refine (HV1.out _).mono ?_; rintro e w1 ⟨rfl, rfl⟩)
                go_ret
                exact ⟨ret_int HRR.out, HB.out.alloc HB.out.size _⟩
              | true =>
                rw [hv1, if_neg (by simp)] at hr
                have HV1 : Hid (∀ w : World, Calls Try.prog 14 #[.string p.1] w fun e w' => e = .returned (.bool true) ∧ w = w') := Lib.hid (by rw [← hv1]; exact ValidName_all p.1)
                clear hv1
                have hT4 : (wr.alloc (.cells #[.string p.1, .string p.2] 52)).heap[w.heap.size]? = some (.cells #[.bool false, .string n, .slice (some ⟨b, o, none⟩) l.length cap] 33 (0, 0)) := ((b0 wr _).block _ (Array.getElem?_eq_some_iff.1 HROW.out).1).trans HROW.out
                have hP4 := heap_alloc_new wr (.cells #[.string p.1, .string p.2] 52)
                have hb4 : Below w.heap.size w (wr.alloc (.cells #[.string p.1, .string p.2] 52)) := HB.out.alloc HB.out.size _
                have hrd4 := ((HR.out.below HB.out).below (b0 wr (.cells #[.string p.1, .string p.2] 52))).take k hk
                cases hh : hasF (l.take k) p.1 with
                | true =>
                  rw [hh, if_pos rfl] at hr
                  have HRR := Lib.hid hr
                  have HH := Lib.hid hh
                  go_wp2_with (go_at_call 14; refine (HV1.out _).mono ?_; rintro e w1 ⟨rfl, rfl⟩)
                  obtain ⟨W4, hW4⟩ : ∃ W4, wr.alloc (.cells #[.string p.1, .string p.2] 52) = W4 := ⟨_, rfl⟩
                  rw [hW4] at hT4 hP4 hb4 hrd4 ⊢
                  obtain ⟨z0, z1, z2, zf0, zf1, zf2⟩ := tag_of_row hT4
                  obtain ⟨p0, p1, pf0, pf1⟩ := pair_of_row hP4
                  have HT4 := Lib.hid hT4
                  have HP4 := Lib.hid hP4
                  have HB4 := Lib.hid hb4
                  have HRD4 : Hid (RdP W4.drew (.slice (some ⟨b, o, none⟩) k cap) (l.take k) (some ⟨b, o, none⟩) cap) := Lib.hid (hrd4.below (below_drewN (Below.refl _ _) 1))
                  have hsl := HSL.out
                  clear hT4 hP4 hb4 hrd4 hW4
                  go_region_held3 (fun w' => w'.cell? ⟨w.heap.size, 2, none⟩ = some (.slice (some ⟨b, o, none⟩) l.length cap) ∧ w'.cell? ⟨wr.heap.size, 0, none⟩ = some (.string p.1))
                    (first | exact ⟨z2, p0⟩ | (go_keep; done) | exact ⟨(tag_of_row hT6).2.2.1, (pair_of_row hP6).1⟩)
                    (first | (go_at_call 56; refine (has_any (l.take k) p.1 _ _ _ _ HRD4.out).mono ?_; rw [HH.out]; rintro e w6 ⟨rfl, hb6⟩; have hT6 := (hb6.block _ (Array.getElem?_eq_some_iff.1 HT4.out).1).trans HT4.out; have hP6 := (hb6.block _ (Array.getElem?_eq_some_iff.1 HP4.out).1).trans HP4.out))
                  obtain ⟨y0, y1, yf0, yf1⟩ := pair_of_row hP6
                  clear z0 z1 z2 zf0 zf1 zf2 p0 p1 pf0 pf1 hsl
                  go_wp2
                  go_ret
                  exact ⟨ret_int HRR.out, bchain HB4.out ⟨hb6.os, hb6.tape, hb6.output, hb6.size, hb6.block⟩⟩
                | false =>
                  rw [hh, if_neg (by simp)] at hr
                  have HH := Lib.hid hh
                  have HVV := Lib.hid (ValidValue_all p.2)
                  generalize hx : vvF p.2 = x at HVV hr
                  by_cases hx0 : x = 0
                  · subst hx0
                    rw [if_pos rfl] at hr
                    have HRR := Lib.hid hr
                    go_wp2_with (go_at_call 14; refine (HV1.out _).mono ?_; rintro e w1 ⟨rfl, rfl⟩)
                    obtain ⟨W4, hW4⟩ : ∃ W4, wr.alloc (.cells #[.string p.1, .string p.2] 52) = W4 := ⟨_, rfl⟩
                    rw [hW4] at hT4 hP4 hb4 hrd4 ⊢
                    obtain ⟨z0, z1, z2, zf0, zf1, zf2⟩ := tag_of_row hT4
                    obtain ⟨p0, p1, pf0, pf1⟩ := pair_of_row hP4
                    have HT4 := Lib.hid hT4
                    have HP4 := Lib.hid hP4
                    have HB4 := Lib.hid hb4
                    have HRD4 : Hid (RdP W4.drew (.slice (some ⟨b, o, none⟩) k cap) (l.take k) (some ⟨b, o, none⟩) cap) := Lib.hid (hrd4.below (below_drewN (Below.refl _ _) 1))
                    have hsl := HSL.out
                    clear hT4 hP4 hb4 hrd4 hW4
                    go_region_held3 (fun w' => w'.cell? ⟨w.heap.size, 2, none⟩ = some (.slice (some ⟨b, o, none⟩) l.length cap) ∧ w'.cell? ⟨wr.heap.size, 0, none⟩ = some (.string p.1))
                      (first | exact ⟨z2, p0⟩ | (go_keep; done) | exact ⟨(tag_of_row hT6).2.2.1, (pair_of_row hP6).1⟩)
                      (first | (go_at_call 56; refine (has_any (l.take k) p.1 _ _ _ _ HRD4.out).mono ?_; rw [HH.out]; rintro e w6 ⟨rfl, hb6⟩; have hT6 := (hb6.block _ (Array.getElem?_eq_some_iff.1 HT4.out).1).trans HT4.out; have hP6 := (hb6.block _ (Array.getElem?_eq_some_iff.1 HP4.out).1).trans HP4.out))
                    obtain ⟨y0, y1, yf0, yf1⟩ := pair_of_row hP6
                    clear z0 z1 z2 zf0 zf1 zf2 p0 p1 pf0 pf1 hsl
                    go_wp2_with (go_at_call 17; refine (HVV.out _).mono ?_; rintro e w7 ⟨rfl, hb7⟩)
                    go_roundw
                    case rel => exact ⟨k + 1, f, by go_num, by omega, by omega, HRR.out, bchain (bchain HB4.out ⟨hb6.os, hb6.tape, hb6.output, hb6.size, hb6.block⟩) hb7, (hb7.block _ (Array.getElem?_eq_some_iff.1 hT6).1).trans hT6⟩
                    case measure => simp [intOf]; omega
                  · rw [if_neg hx0] at hr
                    have e0 : (x != 0) = true := by simp [hx0]
                    have HRR := Lib.hid hr
                    have HX0 := Lib.hid hx0
                    clear hx0 hr
                    go_wp2_with (go_at_call 14; refine (HV1.out _).mono ?_; rintro e w1 ⟨rfl, rfl⟩)
                    obtain ⟨W4, hW4⟩ : ∃ W4, wr.alloc (.cells #[.string p.1, .string p.2] 52) = W4 := ⟨_, rfl⟩
                    rw [hW4] at hT4 hP4 hb4 hrd4 ⊢
                    obtain ⟨z0, z1, z2, zf0, zf1, zf2⟩ := tag_of_row hT4
                    obtain ⟨p0, p1, pf0, pf1⟩ := pair_of_row hP4
                    have HT4 := Lib.hid hT4
                    have HP4 := Lib.hid hP4
                    have HB4 := Lib.hid hb4
                    have HRD4 : Hid (RdP W4.drew (.slice (some ⟨b, o, none⟩) k cap) (l.take k) (some ⟨b, o, none⟩) cap) := Lib.hid (hrd4.below (below_drewN (Below.refl _ _) 1))
                    have hsl := HSL.out
                    clear hT4 hP4 hb4 hrd4 hW4
                    go_region_held3 (fun w' => w'.cell? ⟨w.heap.size, 2, none⟩ = some (.slice (some ⟨b, o, none⟩) l.length cap) ∧ w'.cell? ⟨wr.heap.size, 0, none⟩ = some (.string p.1))
                      (first | exact ⟨z2, p0⟩ | (go_keep; done) | exact ⟨(tag_of_row hT6).2.2.1, (pair_of_row hP6).1⟩)
                      (first | (go_at_call 56; refine (has_any (l.take k) p.1 _ _ _ _ HRD4.out).mono ?_; rw [HH.out]; rintro e w6 ⟨rfl, hb6⟩; have hT6 := (hb6.block _ (Array.getElem?_eq_some_iff.1 HT4.out).1).trans HT4.out; have hP6 := (hb6.block _ (Array.getElem?_eq_some_iff.1 HP4.out).1).trans HP4.out))
                    obtain ⟨y0, y1, yf0, yf1⟩ := pair_of_row hP6
                    clear z0 z1 z2 zf0 zf1 zf2 p0 p1 pf0 pf1 hsl
                    go_wp2_with (go_at_call 17; refine (HVV.out _).mono ?_; rintro e w7 ⟨rfl, hb7⟩)
                    go_ret
                    exact ⟨ret_int HRR.out, bchain (bchain HB4.out ⟨hb6.os, hb6.tape, hb6.output, hb6.size, hb6.block⟩) hb7⟩
            · rw [chkK_end l f k hk1] at hr
              have hk1' : ¬ (k : Int) < l.length := by omega
              have HRR := Lib.hid hr
              have HB := Lib.hid hb
              clear hr hb
              go_wp2
              go_ret
              exact ⟨ret_int HRR.out, HB.out⟩

set_option maxHeartbeats 1000000 in
theorem FormatTag_all (c : Bool) (n : ByteArray) (l : List Pr) (v : Value) (a : Option Addr) (cap : Nat) (w : World) (h : RdP w v l a cap) :
    Calls Try.prog 27 #[.agg #[.bool c, .string n, v]] w fun e w' => e = .returned (.tuple #[.string (fmtF (c, n, l)).1, .int .i64 (fmtF (c, n, l)).2]) ∧ Below w.heap.size w w' := by
  obtain rfl := h.eq
  have hmx : l.length ≤ 9223372036854775807 := Nat.le_trans h.le h.max
  have hT := heap_alloc_new w (.cells #[.bool c, .string n, .slice a l.length cap] 33)
  have hbT := b0 w (.cells #[.bool c, .string n, .slice a l.length cap] 33)
  obtain ⟨W1, hW1⟩ : ∃ W1, w.alloc (.cells #[.bool c, .string n, .slice a l.length cap] 33) = W1 := ⟨_, rfl⟩
  rw [hW1] at hT hbT
  have HR := Lib.hid (h.below hbT)
  have HW1 := Lib.hid hW1
  have HT := Lib.hid hT
  have HBT := Lib.hid hbT
  clear h hW1 hT hbT
  obtain ⟨r, hr⟩ : ∃ r, r = fmtF (c, n, l) := ⟨_, rfl⟩
  rw [← hr]
  unfold fmtF at hr
  dsimp only at hr
  have hchk := fun w h => check_all c n l (.slice a l.length cap) a cap w h
  by_cases h0 : chkF c n l = 0
  · rw [if_pos h0] at hr
    have hz := chkF_zero h0
    rw [h0] at hchk
    have HCH := Lib.hid hchk
    have hn32 := (vnF_size hz.1).2
    clear h0 hchk
    cases c with
    | true =>
      rw [if_pos rfl] at hr
      have HRR := Lib.hid hr
      clear hr hz
      go_enter Try.func27, Try.ntmps27
      go_wp2_with (go_at_call 46; rw [HW1.out]; refine (HCH.out _ HR.out).mono ?_; rintro e w2 ⟨rfl, hb2⟩; have hT2 := (hb2.block _ (Array.getElem?_eq_some_iff.1 HT.out).1).trans HT.out; obtain ⟨z0, z1, z2, zf0, zf1, zf2⟩ := tag_of_row hT2)
      exact bodyPost_ret (v := .tuple #[.string (⟨#[60, 47]⟩ ++ n ++ ⟨#[62]⟩), .int .i64 0]) (by simp [results, Try.results27, go_sem]) rfl ⟨by rw [HRR.out], bchain HBT.out hb2⟩
    | false =>
      rw [if_neg (by simp)] at hr
      obtain ⟨S, hS⟩ : ∃ S, S = sortF l := ⟨_, rfl⟩
      have hSl : S.length = l.length := by rw [hS, sortF_len]
      have hS8 : S.length ≤ 8 := by rw [hSl]; exact hz.2.2.1
      have hSm : ∀ p ∈ S, p.1.size ≤ 32 ∧ p.2.size ≤ 120 := fun p hp => by
        rw [hS] at hp
        obtain ⟨j, hj⟩ := mem_get (mem_sortF hp)
        have h3 := hz.2.2.2 j p hj
        exact ⟨(vnF_size h3.1).2, vvF_size h3.2.2⟩
      have hl8 : l.length ≤ 1000000 := by omega
      rw [← hS] at hr
      obtain ⟨D, hD⟩ : ∃ D, D = fmtK S (⟨#[60]⟩ ++ n) := ⟨_, rfl⟩
      rw [← hD] at hr
      have HRR := Lib.hid hr
      have HD := Lib.hid hD
      have HS := Lib.hid hS
      have HSM := Lib.hid hSm
      clear hr hz hS hSm hD hSl
      go_enter Try.func27, Try.ntmps27
      go_wp2_with (first | (go_at_call 46; rw [HW1.out]; refine (HCH.out _ HR.out).mono ?_; rintro e w2 ⟨rfl, hb2⟩; have hT2 := (hb2.block _ (Array.getElem?_eq_some_iff.1 HT.out).1).trans HT.out; obtain ⟨z0, z1, z2, zf0, zf1, zf2⟩ := tag_of_row hT2) | (go_at_call 47; refine (sorted_any l _ a cap _ (HR.out.below hb2) hl8).mono ?_; rw [← HS.out]; rintro e w3 ⟨sv, rfl, hown3, hb3⟩; obtain ⟨so, sc, rfl⟩ := hown3.lenv))
      have HOWN3 := Lib.hid (hown3.mono (base' := w.heap.size) (Nat.le_trans HBT.out.size hb2.size))
      have HB3 := Lib.hid (bchain (bchain HBT.out hb2) hb3)
      clear hown3 hb3 hb2 hT2 z0 z1 z2 zf0 zf1 zf2 HCH hmx
      go_loopw [5, 26] (fun o i wr => ∃ (k : Nat) (b : ByteArray), i = .int .i64 k ∧ o = .string b ∧ k ≤ S.length ∧ b.size ≤ 40 + 1000 * k ∧ fmtK (S.drop k) b = D ∧ OwnsP wr w.heap.size (.slice so S.length sc) S ∧ Below w.heap.size w wr) (fun _ i _ => S.length - (intOf i).toNat)
      case atStart => exact ⟨0, _, rfl, rfl, by omega, by rw [ByteArray.size_append]; show 1 + n.size ≤ _; omega, HD.out.symm, HOWN3.out, HB3.out⟩
      case round =>
        obtain ⟨k, b, rfl, rfl, hk, hbs, hf, hown, hb⟩ := hrel
        by_cases hk1 : k < S.length
        · have hk1' : (k : Int) < S.length := by omega
          obtain ⟨p, hp⟩ : ∃ p, S[k]? = some p := ⟨S[k], List.getElem?_eq_getElem hk1⟩
          obtain ⟨g, cap3, hv3, hbg, hle3, hmx3, c0, c1⟩ := hown.at hp
          simp only [Value.slice.injEq, true_and] at hv3
          obtain ⟨rfl, rfl⟩ := hv3
          have hps := HSM.out p (List.mem_of_getElem? hp)
          have hps1 := hps.1
          have hps2 := hps.2
          have hd : S.drop k = p :: S.drop (k + 1) := by
            rw [List.drop_eq_getElem_cons hk1]
            rw [List.getElem?_eq_getElem hk1] at hp
            cases hp
            rfl
          have hf2 : fmtK (S.drop (k + 1)) (b ++ keyT p) = D := by rw [← hf, hd]; rfl
          have hE := Escape_any p.2 (by omega)
          have hEl := escT_len p.2
          obtain ⟨E, hEE⟩ : ∃ E, E = escT p.2 := ⟨_, rfl⟩
          rw [show esF p.2 p.2.size 0 ⟨#[]⟩ = E from hEE.symm] at hE
          rw [← hEE] at hEl
          have hE720 : E.size ≤ 720 := by omega
          have hK : keyT p = (⟨#[32]⟩ ++ p.1 ++ ⟨#[61, 34]⟩ ++ E) ++ ⟨#[34]⟩ := by rw [hEE]; rfl
          have HK := Lib.hid hK
          have HE := Lib.hid hE
          have HF2 := Lib.hid hf2
          have HOWN := Lib.hid hown
          have HB := Lib.hid hb
          have hP4 := heap_alloc_new wr (.cells #[.string p.1, .string p.2] 52)
          have hb4 := b0 wr (.cells #[.string p.1, .string p.2] 52)
          clear hK hE hf2 hown hb hEE hd hf hp hEl hps
          go_wp2_with fail
          obtain ⟨W4, hW4⟩ : ∃ W4, wr.alloc (.cells #[.string p.1, .string p.2] 52) = W4 := ⟨_, rfl⟩
          rw [hW4] at hP4 hb4 ⊢
          obtain ⟨p0, p1, pf0, pf1⟩ := pair_of_row hP4
          have HP4 := Lib.hid hP4
          have HB4 := Lib.hid hb4
          clear hP4 hb4 hW4 c0 c1
          have q1 := str_add (⟨#[32]⟩ : ByteArray) p.1 (by show 1 + _ ≤ _; omega)
          have q2 := str_add (⟨#[32]⟩ ++ p.1 : ByteArray) ⟨#[61, 34]⟩ (by rw [ByteArray.size_append]; show 1 + _ + 2 ≤ _; omega)
          have q3 := str_add (⟨#[32]⟩ ++ p.1 ++ ⟨#[61, 34]⟩ : ByteArray) E (by simp only [ByteArray.size_append]; show 1 + _ + 2 + _ ≤ _; omega)
          have q4 := str_add (⟨#[32]⟩ ++ p.1 ++ ⟨#[61, 34]⟩ ++ E : ByteArray) ⟨#[34]⟩ (by simp only [ByteArray.size_append]; show 1 + _ + 2 + _ + 1 ≤ _; omega)
          have q5 := str_add b (⟨#[32]⟩ ++ p.1 ++ ⟨#[61, 34]⟩ ++ E ++ ⟨#[34]⟩ : ByteArray) (by simp only [ByteArray.size_append]; show _ + (1 + _ + 2 + _ + 1) ≤ _; omega)
          go_region_held3 (fun w' => w'.cell? ⟨wr.heap.size, 0, none⟩ = some (.string p.1) ∧ w'.cell? ⟨wr.heap.size, 1, none⟩ = some (.string p.2))
            (first | exact ⟨p0, p1⟩ | (go_keep; done) | exact ⟨(pair_of_row hP6).1, (pair_of_row hP6).2.1⟩)
            (first | (go_at_call 19; refine (HE.out _).mono ?_; rintro e w6 ⟨rfl, hb6⟩; have hP6 := (hb6.block _ (Array.getElem?_eq_some_iff.1 HP4.out).1).trans HP4.out))
          all_goals
            have hB6 : Below w.heap.size w w6 := bchain (bchain HB.out HB4.out) ⟨hb6.os, hb6.tape, hb6.output, hb6.size, hb6.block⟩
            have hO6 : OwnsP w6 w.heap.size (.slice (some ⟨g, 0, none⟩) S.length sc) S := (HOWN.out.below HB4.out).below ⟨hb6.os, hb6.tape, hb6.output, hb6.size, hb6.block⟩
            have HB6 := Lib.hid hB6
            have HO6 := Lib.hid hO6
            clear hB6 hO6 hb6 hP6 p0 p1 pf0 pf1 q1 q2 q3 q4 q5
            go_wp2
            refine ⟨⟨k + 1, _, by go_num, rfl, by omega, ?_, ?_, HO6.out, HB6.out⟩, by simp [intOf]; omega⟩
            · simp only [ByteArray.size_append]
              rw [show (ByteArray.mk #[32]).size = 1 from rfl, show (ByteArray.mk #[61, 34]).size = 2 from rfl, show (ByteArray.mk #[34]).size = 1 from rfl]
              omega
            · rw [← HK.out]; exact HF2.out
        · have hk1' : ¬ (k : Int) < S.length := by omega
          have hbD : b = D := by rw [← hf, List.drop_eq_nil_of_le (by omega)]; rfl
          have HBD := Lib.hid hbD
          have HB := Lib.hid hb
          clear hbD hb hf hown
          go_wp2
          exact bodyPost_ret (v := .tuple #[.string (b ++ ⟨#[62]⟩), .int .i64 0]) (by simp [results, Try.results27, go_sem]) rfl ⟨by rw [HRR.out, HBD.out], HB.out⟩
  · rw [if_neg h0] at hr
    have e0 : (chkF c n l != 0) = true := by simp [h0]
    generalize chkF c n l = x at hchk hr e0
    have HCH := Lib.hid hchk
    have HRR := Lib.hid hr
    clear h0 hchk hr
    go_enter Try.func27, Try.ntmps27
    go_wp2_with (go_at_call 46; rw [HW1.out]; refine (HCH.out _ HR.out).mono ?_; rintro e w2 ⟨rfl, hb2⟩)
    exact bodyPost_ret (v := .tuple #[.string ⟨#[]⟩, .int .i64 x]) (by simp [results, Try.results27, go_sem]) rfl ⟨by rw [HRR.out], bchain HBT.out hb2⟩

end Go.Proofs.Ytaaegelefknkeab
