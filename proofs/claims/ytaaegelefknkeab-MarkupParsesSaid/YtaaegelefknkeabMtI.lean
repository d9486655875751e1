/- check: the reason why a tag has no text. -/
import Derived.Test.YtaaegelefknkeabMtH
namespace Go.Proofs.Ytaaegelefknkeab
open Go.RowKit Go.Shelf
set_option linter.unusedSimpArgs false

/-- The reason why the pairs from number i on, behind those before, are no keys. -/
def chkK (l : List Pr) : Nat → Nat → Int
  | 0, _ => 0
  | f + 1, i => match l[i]? with
    | none => 0
    | some p => if vnF p.1 = false then 4 else if hasF (l.take i) p.1 = true then 5 else if vvF p.2 = 0 then chkK l f (i + 1) else vvF p.2
def chkF (c : Bool) (n : ByteArray) (l : List Pr) : Int :=
  if vnF n = false then 4 else if (c && decide (0 < l.length)) = true then 15 else if 8 < l.length then 15 else chkK l l.length 0
theorem chkK_end (l : List Pr) (f i : Nat) (h : ¬ i < l.length) : chkK l f i = 0 := by
  cases f with
  | zero => rfl
  | succ f => rw [chkK, List.getElem?_eq_none (by omega)]
theorem slice31h (b o n cap k : Nat) (hk : k ≤ n) (hn : n ≤ cap) : ∀ W, (Instr.slice 31 (.slice (some ⟨b, o, none⟩) n cap) none (some (.int .i64 (k : Int))) none).run Try.prog W = .ok (.slice (some ⟨b, o, none⟩) k cap) W := by
  intro W
  rw [run_slice_h W 31 (some ⟨b, o, none⟩) n cap (by kernel_rfl) .i64 k (by omega) (by omega)]
  have hsz : (sizeOf (Try.prog.elem 31)).run Try.prog W = .ok 2 W := by kernel_rfl
  rw [hsz]
  simp [Result.andThen, sliced, Addr.add]
theorem RdP.take {W : World} {v : Value} {l : List Pr} {a : Option Addr} {cap : Nat} (h : RdP W v l a cap) (k : Nat) (hk : k ≤ l.length) : RdP W (.slice a k cap) (l.take k) a cap := by
  refine ⟨by rw [List.length_take, Nat.min_eq_left hk], by rw [List.length_take]; have := h.le; omega, h.max, fun i p hi => ?_⟩
  rw [List.getElem?_take] at hi
  split at hi
  · exact h.cells i p hi
  · cases hi

set_option maxHeartbeats 1000000 in
theorem check_any (c : Bool) (n : ByteArray) (l : List Pr) (v : Value) (a : Option Addr) (cap : Nat) (w : World) (h : RdP w v l a cap)
    (hn : n.size ≤ 140737488351232) (hl : ∀ p ∈ l, p.1.size ≤ 140737488351232 ∧ p.2.size ≤ 140737488351232) :
    Calls Try.prog 46 #[.agg #[.bool c, .string n, v]] w fun e w' => e = .returned (.int .i64 (chkF c n l)) ∧ Below w.heap.size w w' := by
  obtain rfl := h.eq
  have hmx : l.length ≤ 9223372036854775807 := Nat.le_trans h.le h.max
  have HR := Lib.hid h
  have HL := Lib.hid hl
  have HV := Lib.hid (ValidName_any n hn)
  clear h hl
  unfold chkF
  cases hv : vnF n with
  | false =>
    rw [hv] at HV
    rw [if_pos rfl]
    clear hv
    go_enter Try.func46, Try.ntmps46
    go_wp2_with (go_at_call 14; refine (HV.out _).mono ?_; rintro e w1 ⟨rfl, rfl⟩)
    go_ret
    exact ⟨rfl, b0 w _⟩
  | true =>
    rw [hv] at HV
    rw [if_neg (by simp)]
    clear hv
    by_cases h0 : (c && decide (0 < l.length)) = true
    · rw [if_pos h0]
      have hc : c = true := by cases c with | true => rfl | false => simp at h0
      subst hc
      have hl0 : (0 : Int) < l.length := by simp at h0; omega
      clear h0
      go_enter Try.func46, Try.ntmps46
      go_wp2_with (go_at_call 14; refine (HV.out _).mono ?_; rintro e w1 ⟨rfl, rfl⟩)
      go_ret
      exact ⟨rfl, b0 w _⟩
    · rw [if_neg h0]
      by_cases h8 : 8 < l.length
      · rw [if_pos h8]
        have hc : c = false := by cases c with | false => rfl | true => (simp at h0; rw [h0] at h8; simp at h8)
        subst hc
        have h8' : (8 : Int) < l.length := by omega
        clear h0
        go_enter Try.func46, Try.ntmps46
        go_wp2_with (go_at_call 14; refine (HV.out _).mono ?_; rintro e w1 ⟨rfl, rfl⟩)
        go_ret
        exact ⟨rfl, b0 w _⟩
      · rw [if_neg h8]
        have h8' : ¬ (8 : Int) < l.length := by omega
        obtain ⟨r, hr⟩ : ∃ r, r = chkK l l.length 0 := ⟨_, rfl⟩
        rw [← hr]
        have HE := Lib.hid hr
        have hT := heap_alloc_new w (.cells #[.bool c, .string n, .slice a l.length cap] 33)
        have hbT := b0 w (.cells #[.bool c, .string n, .slice a l.length cap] 33)
        clear hr
        have hc0 : c = true → ¬ (0 : Int) < l.length := by intro e; subst e; simp at h0; rw [h0]; decide
        have HT := Lib.hid hT
        have HBT := Lib.hid hbT
        clear hT hbT h0
        go_enter Try.func46, Try.ntmps46
        cases c with
        | true =>
          have hl0 : l = [] := List.eq_nil_of_length_eq_zero (by have := hc0 rfl; omega)
          subst hl0
          have hr0 : r = 0 := HE.out
          subst hr0
          clear hc0 HE HR HL hmx
          simp only [List.length_nil] at *
          go_wp2_with (go_at_call 14; refine (HV.out _).mono ?_; rintro e w1 ⟨rfl, rfl⟩)
          clear HV
          go_loopw [27] (fun i wr => i = .int .i64 0 ∧ Below w.heap.size w wr) (fun i _ => 0)
          case atStart => exact ⟨rfl, HBT.out⟩
          case round =>
            obtain ⟨rfl, hb⟩ := hrel
            have HB := Lib.hid hb
            clear hb
            go_wp2
            go_ret
            exact ⟨rfl, HB.out⟩
        | false =>
          clear hc0
          go_wp2_with (go_at_call 14; refine (HV.out _).mono ?_; rintro e w1 ⟨rfl, rfl⟩)
          clear HV
          try clear hc1
          go_loopw [27] (fun i wr => ∃ k f : Nat, i = .int .i64 k ∧ k ≤ l.length ∧ l.length ≤ k + f ∧ chkK l f k = r ∧ Below w.heap.size w wr ∧ wr.heap[w.heap.size]? = some (.cells #[.bool false, .string n, .slice a l.length cap] 33 (0, 0))) (fun i _ => l.length - (intOf i).toNat)
          case atStart => exact ⟨0, l.length, rfl, by omega, by omega, HE.out.symm, HBT.out, HT.out⟩
          case round =>
            obtain ⟨k, f, rfl, hk, hf, hr, hb, hrow⟩ := hrel
            by_cases hk1 : k < l.length
            · have hk1' : (k : Int) < l.length := by omega
              obtain ⟨f, rfl⟩ : ∃ g, f = g + 1 := ⟨f - 1, by omega⟩
              obtain ⟨p, hp⟩ : ∃ p, l[k]? = some p := ⟨l[k], List.getElem?_eq_getElem hk1⟩
              obtain ⟨b, o, rfl, hc0, hc1⟩ := (HR.out.below hb).cells k p hp
              have hps := HL.out p (List.mem_of_getElem? hp)
              have hps1 := hps.1
              have hps2 := hps.2
              rw [chkK, hp] at hr
              dsimp only at hr
              have hsl := slice31h b o l.length cap k hk (HR.out.le)
              have HB := Lib.hid hb
              have HROW := Lib.hid hrow
              have HSL := Lib.hid hsl
              clear hb hrow hsl hps hp
              cases hv1 : vnF p.1 with
              | false =>
                rw [hv1, if_pos rfl] at hr
                have HV1 : Hid (∀ w : World, Calls Try.prog 14 #[.string p.1] w fun e w' => e = .returned (.bool false) ∧ w = w') := Lib.hid (by rw [← hv1]; exact ValidName_any p.1 hps1)
                have HRR := Lib.hid hr
                clear hr hv1
                go_wp2_with (go_at_call 14; refine (HV1.out _).mono ?_; rintro e w1 ⟨rfl, rfl⟩)
                go_ret
                exact ⟨ret_int HRR.out, HB.out.alloc HB.out.size _⟩
              | true =>
                rw [hv1, if_neg (by simp)] at hr
                have HV1 : Hid (∀ w : World, Calls Try.prog 14 #[.string p.1] w fun e w' => e = .returned (.bool true) ∧ w = w') := Lib.hid (by rw [← hv1]; exact ValidName_any p.1 hps1)
                clear hv1
                have hT4 : (wr.alloc (.cells #[.string p.1, .string p.2] 52)).heap[w.heap.size]? = some (.cells #[.bool false, .string n, .slice (some ⟨b, o, none⟩) l.length cap] 33 (0, 0)) := ((b0 wr _).block _ (Array.getElem?_eq_some_iff.1 HROW.out).1).trans HROW.out
                have hP4 := heap_alloc_new wr (.cells #[.string p.1, .string p.2] 52)
                have hb4 : Below w.heap.size w (wr.alloc (.cells #[.string p.1, .string p.2] 52)) := HB.out.alloc HB.out.size _
                have hrd4 := ((HR.out.below HB.out).below (b0 wr (.cells #[.string p.1, .string p.2] 52))).take k hk
                cases hh : hasF (l.take k) p.1 with
                | true =>
                  rw [hh, if_pos rfl] at hr
                  have HRR := Lib.hid hr
                  have HH := Lib.hid hh
                  go_wp2_with (go_at_call 14; refine (HV1.out _).mono ?_; rintro e w1 ⟨rfl, rfl⟩)
                  obtain ⟨W4, hW4⟩ : ∃ W4, wr.alloc (.cells #[.string p.1, .string p.2] 52) = W4 := ⟨_, rfl⟩
                  rw [hW4] at hT4 hP4 hb4 hrd4 ⊢
                  obtain ⟨z0, z1, z2, zf0, zf1, zf2⟩ := tag_of_row hT4
                  obtain ⟨p0, p1, pf0, pf1⟩ := pair_of_row hP4
                  have HT4 := Lib.hid hT4
                  have HP4 := Lib.hid hP4
                  have HB4 := Lib.hid hb4
                  have HRD4 : Hid (RdP W4.drew (.slice (some ⟨b, o, none⟩) k cap) (l.take k) (some ⟨b, o, none⟩) cap) := Lib.hid (hrd4.below (below_drewN (Below.refl _ _) 1))
                  have hsl := HSL.out
                  clear hT4 hP4 hb4 hrd4 hW4
                  go_region_held3 (fun w' => w'.cell? ⟨w.heap.size, 2, none⟩ = some (.slice (some ⟨b, o, none⟩) l.length cap) ∧ w'.cell? ⟨wr.heap.size, 0, none⟩ = some (.string p.1))
                    (first | exact ⟨z2, p0⟩ | (go_keep; done) | exact ⟨(tag_of_row hT6).2.2.1, (pair_of_row hP6).1⟩)
                    (first | (go_at_call 56; refine (has_any (l.take k) p.1 _ _ _ _ HRD4.out).mono ?_; rw [HH.out]; rintro e w6 ⟨rfl, hb6⟩; have hT6 := (hb6.block _ (Array.getElem?_eq_some_iff.1 HT4.out).1).trans HT4.out; have hP6 := (hb6.block _ (Array.getElem?_eq_some_iff.1 HP4.out).1).trans HP4.out))
                  obtain ⟨y0, y1, yf0, yf1⟩ := pair_of_row hP6
                  clear z0 z1 z2 zf0 zf1 zf2 p0 p1 pf0 pf1 hsl
                  go_wp2
                  go_ret
                  exact ⟨ret_int HRR.out, bchain HB4.out ⟨hb6.os, hb6.tape, hb6.output, hb6.size, hb6.block⟩⟩
                | false =>
                  rw [hh, if_neg (by simp)] at hr
                  have HH := Lib.hid hh
                  have HVV := Lib.hid (ValidValue_any p.2 hps2)
                  generalize hx : vvF p.2 = x at HVV hr
                  by_cases hx0 : x = 0
                  · subst hx0
                    rw [if_pos rfl] at hr
                    have HRR := Lib.hid hr
                    go_wp2_with (go_at_call 14; refine (HV1.out _).mono ?_; rintro e w1 ⟨rfl, rfl⟩)
                    obtain ⟨W4, hW4⟩ : ∃ W4, wr.alloc (.cells #[.string p.1, .string p.2] 52) = W4 := ⟨_, rfl⟩
                    rw [hW4] at hT4 hP4 hb4 hrd4 ⊢
                    obtain ⟨z0, z1, z2, zf0, zf1, zf2⟩ := tag_of_row hT4
                    obtain ⟨p0, p1, pf0, pf1⟩ := pair_of_row hP4
                    have HT4 := Lib.hid hT4
                    have HP4 := Lib.hid hP4
                    have HB4 := Lib.hid hb4
                    have HRD4 : Hid (RdP W4.drew (.slice (some ⟨b, o, none⟩) k cap) (l.take k) (some ⟨b, o, none⟩) cap) := Lib.hid (hrd4.below (below_drewN (Below.refl _ _) 1))
                    have hsl := HSL.out
                    clear hT4 hP4 hb4 hrd4 hW4
                    go_region_held3 (fun w' => w'.cell? ⟨w.heap.size, 2, none⟩ = some (.slice (some ⟨b, o, none⟩) l.length cap) ∧ w'.cell? ⟨wr.heap.size, 0, none⟩ = some (.string p.1))
                      (first | exact ⟨z2, p0⟩ | (go_keep; done) | exact ⟨(tag_of_row hT6).2.2.1, (pair_of_row hP6).1⟩)
                      (first | (go_at_call 56; refine (has_any (l.take k) p.1 _ _ _ _ HRD4.out).mono ?_; rw [HH.out]; rintro e w6 ⟨rfl, hb6⟩; have hT6 := (hb6.block _ (Array.getElem?_eq_some_iff.1 HT4.out).1).trans HT4.out; have hP6 := (hb6.block _ (Array.getElem?_eq_some_iff.1 HP4.out).1).trans HP4.out))
                    obtain ⟨y0, y1, yf0, yf1⟩ := pair_of_row hP6
                    clear z0 z1 z2 zf0 zf1 zf2 p0 p1 pf0 pf1 hsl
                    go_wp2_with (go_at_call 17; refine (HVV.out _).mono ?_; rintro e w7 ⟨rfl, hb7⟩)
                    go_roundw
                    case rel => exact ⟨k + 1, f, by go_num, by omega, by omega, HRR.out, bchain (bchain HB4.out ⟨hb6.os, hb6.tape, hb6.output, hb6.size, hb6.block⟩) hb7, (hb7.block _ (Array.getElem?_eq_some_iff.1 hT6).1).trans hT6⟩
                    case measure => simp [intOf]; omega
                  · rw [if_neg hx0] at hr
                    have e0 : (x != 0) = true := by simp [hx0]
                    have HRR := Lib.hid hr
                    have HX0 := Lib.hid hx0
                    clear hx0 hr
                    go_wp2_with (go_at_call 14; refine (HV1.out _).mono ?_; rintro e w1 ⟨rfl, rfl⟩)
                    obtain ⟨W4, hW4⟩ : ∃ W4, wr.alloc (.cells #[.string p.1, .string p.2] 52) = W4 := ⟨_, rfl⟩
                    rw [hW4] at hT4 hP4 hb4 hrd4 ⊢
                    obtain ⟨z0, z1, z2, zf0, zf1, zf2⟩ := tag_of_row hT4
                    obtain ⟨p0, p1, pf0, pf1⟩ := pair_of_row hP4
                    have HT4 := Lib.hid hT4
                    have HP4 := Lib.hid hP4
                    have HB4 := Lib.hid hb4
                    have HRD4 : Hid (RdP W4.drew (.slice (some ⟨b, o, none⟩) k cap) (l.take k) (some ⟨b, o, none⟩) cap) := Lib.hid (hrd4.below (below_drewN (Below.refl _ _) 1))
                    have hsl := HSL.out
                    clear hT4 hP4 hb4 hrd4 hW4
                    go_region_held3 (fun w' => w'.cell? ⟨w.heap.size, 2, none⟩ = some (.slice (some ⟨b, o, none⟩) l.length cap) ∧ w'.cell? ⟨wr.heap.size, 0, none⟩ = some (.string p.1))
                      (first | exact ⟨z2, p0⟩ | (go_keep; done) | exact ⟨(tag_of_row hT6).2.2.1, (pair_of_row hP6).1⟩)
                      (first | (go_at_call 56; refine (has_any (l.take k) p.1 _ _ _ _ HRD4.out).mono ?_; rw [HH.out]; rintro e w6 ⟨rfl, hb6⟩; have hT6 := (hb6.block _ (Array.getElem?_eq_some_iff.1 HT4.out).1).trans HT4.out; have hP6 := (hb6.block _ (Array.getElem?_eq_some_iff.1 HP4.out).1).trans HP4.out))
                    obtain ⟨y0, y1, yf0, yf1⟩ := pair_of_row hP6
                    clear z0 z1 z2 zf0 zf1 zf2 p0 p1 pf0 pf1 hsl
                    go_wp2_with (go_at_call 17; refine (HVV.out _).mono ?_; rintro e w7 ⟨rfl, hb7⟩)
                    go_ret
                    exact ⟨ret_int HRR.out, bchain (bchain HB4.out ⟨hb6.os, hb6.tape, hb6.output, hb6.size, hb6.block⟩) hb7⟩
            · rw [chkK_end l f k hk1] at hr
              have hk1' : ¬ (k : Int) < l.length := by omega
              have HRR := Lib.hid hr
              have HB := Lib.hid hb
              clear hr hb
              go_wp2
              go_ret
              exact ⟨ret_int HRR.out, HB.out⟩
end Go.Proofs.Ytaaegelefknkeab
