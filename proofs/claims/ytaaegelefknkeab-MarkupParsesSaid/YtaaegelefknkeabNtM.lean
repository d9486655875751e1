/- The reference's FormatTag. -/
import Derived.Test.YtaaegelefknkeabNtL
import Derived.Test.YtaaegelefknkeabNtC
namespace Go.Proofs.Ytaaegelefknkeab
open Go.RowKit Go.Shelf
set_option linter.unusedSimpArgs false
set_option linter.unusedVariables false

theorem fmt_bad {c : Bool} {n : ByteArray} {l : List Pr} {x : Int} (h : chkF c n l = x) (hx : x ≠ 0) : fmtF (c, n, l) = (⟨#[]⟩, x) := by
  unfold fmtF
  dsimp only
  rw [h, if_neg hx]

set_option maxHeartbeats 1000000 in
theorem RFormatTag_any (c : Bool) (n : ByteArray) (l : List Pr) (v : Value) (a : Option Addr) (cap : Nat) (w : World) (h : RdP w v l a cap)
    (hn : n.size ≤ 140737488351232) (hl : ∀ p ∈ l, p.1.size ≤ 140737488351232 ∧ p.2.size ≤ 1000000) :
    Calls Try.prog 28 #[.agg #[.bool c, .string n, v]] w fun e w' => e = .returned (.tuple #[.string (fmtF (c, n, l)).1, .int .i64 (fmtF (c, n, l)).2]) ∧ Below w.heap.size w w' := by
  obtain rfl := h.eq
  have hmx : l.length ≤ 9223372036854775807 := Nat.le_trans h.le h.max
  have HL := Lib.hid hl
  have HV := Lib.hid (RValidName_any n hn)
  have hT := heap_alloc_new w (.cells #[.bool c, .string n, .slice a l.length cap] 36)
  have hbT := b0 w (.cells #[.bool c, .string n, .slice a l.length cap] 36)
  have HR := Lib.hid h
  have HT := Lib.hid hT
  have HBT := Lib.hid hbT
  clear h hl hT hbT
  cases hv : vnF n with
  | false =>
    have hx := fmt_bad (c := c) (n := n) (l := l) (x := 4) (by unfold chkF; rw [hv, if_pos rfl]) (by decide)
    rw [hx]
    rw [hv] at HV
    clear hv hx
    go_enter Try.func28, Try.ntmps28
    go_wp2_with (go_at_call 15; refine (HV.out _).mono ?_; rintro e w1 ⟨rfl, rfl⟩)
    exact bodyPost_ret (v := .tuple #[.string ⟨#[]⟩, .int .i64 4]) (by simp [results, Try.results28, go_sem]) rfl ⟨rfl, HBT.out⟩
  | true =>
    rw [hv] at HV
    by_cases h0 : (c && decide (0 < l.length)) = true
    · have hx := fmt_bad (c := c) (n := n) (l := l) (x := 15) (by unfold chkF; rw [hv, if_neg (by simp), if_pos h0]) (by decide)
      rw [hx]
      have hc : c = true := by cases c with | true => rfl | false => simp at h0
      subst hc
      have hl0 : (0 : Int) < l.length := by simp at h0; omega
      have hne : ¬ l = [] := by rintro rfl; simp at hl0
      clear h0 hv hx
      go_enter Try.func28, Try.ntmps28
      go_wp2_with (go_at_call 15; refine (HV.out _).mono ?_; rintro e w1 ⟨rfl, rfl⟩)
      exact bodyPost_ret (v := .tuple #[.string ⟨#[]⟩, .int .i64 15]) (by simp [results, Try.results28, go_sem]) rfl ⟨rfl, HBT.out⟩
    · by_cases h8 : 8 < l.length
      · have hx := fmt_bad (c := c) (n := n) (l := l) (x := 15) (by unfold chkF; rw [hv, if_neg (by simp), if_neg h0, if_pos h8]) (by decide)
        rw [hx]
        have hc : c = false := by cases c with | false => rfl | true => (simp at h0; rw [h0] at h8; simp at h8)
        subst hc
        have h8' : (8 : Int) < l.length := by omega
        clear h0 hv hx
        go_enter Try.func28, Try.ntmps28
        go_wp2_with (go_at_call 15; refine (HV.out _).mono ?_; rintro e w1 ⟨rfl, rfl⟩)
        exact bodyPost_ret (v := .tuple #[.string ⟨#[]⟩, .int .i64 15]) (by simp [results, Try.results28, go_sem]) rfl ⟨rfl, HBT.out⟩
      · have h8' : ¬ (8 : Int) < l.length := by omega
        have hn32 := (vnF_size hv).2
        have hchk : chkF c n l = chkK l l.length 0 := by unfold chkF; rw [hv, if_neg (by simp), if_neg h0, if_neg h8]
        cases c with
        | true =>
          have hl0 : l = [] := by simp at h0; exact h0
          subst hl0
          have hx : fmtF (true, n, ([] : List Pr)) = (⟨#[60, 47]⟩ ++ n ++ ⟨#[62]⟩, 0) := by
            unfold fmtF
            dsimp only
            rw [hchk]
            rfl
          rw [hx]
          clear h0 hv hx hchk HR HL hmx
          simp only [List.length_nil] at *
          go_enter Try.func28, Try.ntmps28
          go_wp2_with (go_at_call 15; refine (HV.out _).mono ?_; rintro e w1 ⟨rfl, rfl⟩)
          clear HV
          go_loopw [33] (fun i wr => i = .int .i64 0 ∧ wr.heap[w.heap.size]? = some (.cells #[.bool true, .string n, .slice a 0 cap] 36 (0, 0)) ∧ Below w.heap.size w wr) (fun i _ => 0)
          case atStart => exact ⟨rfl, HT.out, HBT.out⟩
          case round =>
            obtain ⟨rfl, hrow, hb⟩ := hrel
            obtain ⟨z0, z1, z2, zf0, zf1, zf2⟩ := tag_of_row hrow
            have HB := Lib.hid hb
            clear hb hrow
            go_wp2
            exact bodyPost_ret (v := .tuple #[.string (⟨#[60, 47]⟩ ++ n ++ ⟨#[62]⟩), .int .i64 0]) (by simp [results, Try.results28, go_sem]) rfl ⟨rfl, HB.out⟩
        | false =>
          obtain ⟨r, hr⟩ : ∃ r, r = chkK l l.length 0 := ⟨_, rfl⟩
          rw [← hr] at hchk
          obtain ⟨X, hX⟩ : ∃ X, X = fmtF (false, n, l) := ⟨_, rfl⟩
          rw [← hX]
          have HX := Lib.hid hX
          have HCH := Lib.hid hchk
          have HE := Lib.hid hr
          clear hr hX hchk h0 hv
          go_enter Try.func28, Try.ntmps28
          go_wp2_with (go_at_call 15; refine (HV.out _).mono ?_; rintro e w1 ⟨rfl, rfl⟩)
          clear HV
          go_loopw [33] (fun i wr => ∃ k f : Nat, i = .int .i64 k ∧ k ≤ l.length ∧ l.length ≤ k + f ∧ chkK l f k = r ∧ Below w.heap.size w wr ∧ wr.heap[w.heap.size]? = some (.cells #[.bool false, .string n, .slice a l.length cap] 36 (0, 0))) (fun i _ => l.length - (intOf i).toNat)
          case atStart => exact ⟨0, l.length, rfl, by omega, by omega, HE.out.symm, HBT.out, HT.out⟩
          case round =>
            obtain ⟨k, f, rfl, hk, hf, hr, hb, hrow⟩ := hrel
            obtain ⟨wo, rfl⟩ : ∃ x, x = wr := ⟨_, rfl⟩
            by_cases hk1 : k < l.length
            · have hk1' : (k : Int) < l.length := by omega
              obtain ⟨f, rfl⟩ : ∃ g, f = g + 1 := ⟨f - 1, by omega⟩
              obtain ⟨p, hp⟩ : ∃ p, l[k]? = some p := ⟨l[k], List.getElem?_eq_getElem hk1⟩
              obtain ⟨b, o, rfl, hc0, hc1⟩ := (HR.out.below hb).cells k p hp
              have hps := HL.out p (List.mem_of_getElem? hp)
              have hps1 := hps.1
              have hps2 := hps.2
              rw [chkK, hp] at hr
              dsimp only at hr
              have hsl := slice31h b o l.length cap k hk (HR.out.le)
              have HB := Lib.hid hb
              have HROW := Lib.hid hrow
              have HSL := Lib.hid hsl
              clear hb hrow hsl hps hp
              cases hv1 : vnF p.1 with
              | false =>
                rw [hv1, if_pos rfl] at hr
                have HV1 : Hid (∀ w : World, Calls Try.prog 15 #[.string p.1] w fun e w' => e = .returned (.bool false) ∧ w = w') := Lib.hid (by rw [← hv1]; exact RValidName_any p.1 hps1)
                have hXX : X = (⟨#[]⟩, 4) := by rw [HX.out]; exact fmt_bad (HCH.out.trans hr.symm) (by decide)
                have HXX := Lib.hid hXX
                clear hr hv1 hXX
                go_wp2_with (go_at_call 15; refine (HV1.out _).mono ?_; rintro e w1 ⟨rfl, rfl⟩)
                exact bodyPost_ret (v := .tuple #[.string ⟨#[]⟩, .int .i64 4]) (by simp [results, Try.results28, go_sem]) rfl ⟨by rw [HXX.out], HB.out.alloc HB.out.size _⟩
              | true =>
                rw [hv1, if_neg (by simp)] at hr
                have HV1 : Hid (∀ w : World, Calls Try.prog 15 #[.string p.1] w fun e w' => e = .returned (.bool true) ∧ w = w') := Lib.hid (by rw [← hv1]; exact RValidName_any p.1 hps1)
                have HRR := Lib.hid hr
                clear hv1 hr
                have hT4 : (wo.alloc (.cells #[.string p.1, .string p.2] 52)).heap[w.heap.size]? = some (.cells #[.bool false, .string n, .slice (some ⟨b, o, none⟩) l.length cap] 36 (0, 0)) := ((b0 wo _).block _ (Array.getElem?_eq_some_iff.1 HROW.out).1).trans HROW.out
                have hP4 := heap_alloc_new wo (.cells #[.string p.1, .string p.2] 52)
                have hb4 : Below w.heap.size w (wo.alloc (.cells #[.string p.1, .string p.2] 52)) := HB.out.alloc HB.out.size _
                have hrd4 := (HR.out.below HB.out).below (b0 wo (.cells #[.string p.1, .string p.2] 52))
                obtain ⟨W4, hW4⟩ : ∃ W4, wo.alloc (.cells #[.string p.1, .string p.2] 52) = W4 := ⟨_, rfl⟩
                rw [hW4] at hT4 hP4 hb4 hrd4
                obtain ⟨z0, z1, z2, zf0, zf1, zf2⟩ := tag_of_row hT4
                have HT4 := Lib.hid hT4
                have HP4 := Lib.hid hP4
                have HB4 := Lib.hid hb4
                have HRD4 := Lib.hid hrd4
                have HW4 := Lib.hid hW4
                have hsl := HSL.out
                clear hT4 hP4 hb4 hrd4 hW4
                go_wp2_with (go_at_call 15; rw [HW4.out]; refine (HV1.out _).mono ?_; rintro e w1 ⟨rfl, rfl⟩)
                clear z0 z1 z2 zf0 zf1 zf2 hsl hc0 hc1
                go_loopw [47] (fun i wr => ∃ j : Nat, i = .int .i64 j ∧ j ≤ k ∧ hasF ((l.take k).drop j) p.1 = hasF (l.take k) p.1 ∧ Below W4.heap.size W4 wr) (fun i _ => k - (intOf i).toNat)
                case atStart => exact ⟨0, rfl, Nat.zero_le _, by rw [List.drop_zero], Below.refl _ _⟩
                case round =>
                  obtain ⟨j, rfl, hj, hjh, hb5⟩ := hrel
                  have hT5 := (hb5.block _ (Array.getElem?_eq_some_iff.1 HT4.out).1).trans HT4.out
                  have hP5 := (hb5.block _ (Array.getElem?_eq_some_iff.1 HP4.out).1).trans HP4.out
                  obtain ⟨p0, p1, pf0, pf1⟩ := pair_of_row hP5
                  have hlt5 : wo.heap.size < wr.heap.size := (Array.getElem?_eq_some_iff.1 hP5).1
                  have HT5 := Lib.hid hT5
                  have HP5 := Lib.hid hP5
                  have HB5 := Lib.hid hb5
                  have HB6 := Lib.hid (HB4.out.trans (hb5.mono HB4.out.size))
                  by_cases hjk : j < k
                  · have hjk' : (j : Int) < k := by omega
                    obtain ⟨q, hq⟩ : ∃ q, l[j]? = some q := ⟨l[j]'(by omega), List.getElem?_eq_getElem (by omega)⟩
                    obtain ⟨b', o', hbo, hq0, hq1⟩ := (HRD4.out.below hb5).cells j q hq
                    simp only [Option.some.injEq, Addr.mk.injEq, and_true] at hbo
                    obtain ⟨rfl, rfl⟩ := hbo
                    have hd : (l.take k).drop j = q :: (l.take k).drop (j + 1) := by
                      have hjt : j < (l.take k).length := by rw [List.length_take]; omega
                      rw [List.drop_eq_getElem_cons hjt]
                      rw [List.getElem?_eq_getElem (by omega)] at hq
                      cases hq
                      rw [List.getElem_take]
                    rw [hd] at hjh
                    have hjh2 : (q.1.toList == p.1.toList || hasF ((l.take k).drop (j + 1)) p.1) = hasF (l.take k) p.1 := hjh
                    clear hT5 hP5 hb5 hd hjh hq
                    have hle := HR.out.le
                    have hmx2 := HR.out.max
                    cases he : (q.1.toList == p.1.toList) with
                    | true =>
                      rw [he, Bool.true_or] at hjh2
                      have hXX : X = (⟨#[]⟩, 5) := by
                        have := HRR.out
                        rw [← hjh2, if_pos rfl] at this
                        rw [HX.out]; exact fmt_bad (HCH.out.trans this.symm) (by decide)
                      have HXX := Lib.hid hXX
                      clear hXX hjh2
                      go_wp2
                      exact bodyPost_ret (v := .tuple #[.string ⟨#[]⟩, .int .i64 5]) (by simp [results, Try.results28, go_sem]) rfl ⟨by rw [HXX.out], HB6.out.alloc HB6.out.size _⟩
                    | false =>
                      rw [he, Bool.false_or] at hjh2
                      have HJ := Lib.hid hjh2
                      clear hjh2
                      go_wp2
                      go_roundw
                      case rel => exact ⟨j + 1, by go_num, by omega, HJ.out, HB5.out.alloc HB5.out.size _⟩
                      case measure => simp [intOf]; omega
                  · have hjk' : ¬ (j : Int) < k := by omega
                    have hh : hasF (l.take k) p.1 = false := by
                      rw [← hjh, List.drop_eq_nil_of_le (by rw [List.length_take]; omega)]
                      rfl
                    have hr2 := HRR.out
                    rw [hh, if_neg (by simp)] at hr2
                    have HVV := Lib.hid (RValidValue_any p.2 hps2)
                    clear hT5 hP5 hb5 hh hjh
                    generalize hx : vvF p.2 = x at HVV hr2
                    by_cases hx0 : x = 0
                    · subst hx0
                      rw [if_pos rfl] at hr2
                      have HR2 := Lib.hid hr2
                      clear hr2 hx
                      go_wp2_with (go_at_call 18; refine (HVV.out _).mono ?_; rintro e w7 ⟨rfl, hb7⟩; have HB7 := Lib.hid hb7; clear hb7)
                      exact ⟨⟨k + 1, f, by go_num, by omega, by omega, HR2.out, bchain HB6.out HB7.out, (HB7.out.block _ (Array.getElem?_eq_some_iff.1 HT5.out).1).trans HT5.out⟩, by simp [intOf]; omega⟩
                    · rw [if_neg hx0] at hr2
                      have hXX : X = (⟨#[]⟩, x) := by rw [HX.out]; exact fmt_bad (HCH.out.trans hr2.symm) hx0
                      have e0 : (x != 0) = true := by simp [hx0]
                      have HXX := Lib.hid hXX
                      clear hXX hr2 hx hx0
                      go_wp2_with (go_at_call 18; refine (HVV.out _).mono ?_; rintro e w7 ⟨rfl, hb7⟩; have HB7 := Lib.hid hb7; clear hb7)
                      exact bodyPost_ret (v := .tuple #[.string ⟨#[]⟩, .int .i64 x]) (by simp [results, Try.results28, go_sem]) rfl ⟨by rw [HXX.out], bchain HB6.out HB7.out⟩
            · have hrz : r = 0 := by rw [← hr]; exact chkK_end l f k hk1
              have hk1' : ¬ (k : Int) < l.length := by omega
              have hz := chkF_zero (HCH.out.trans hrz)
              obtain ⟨z0, z1, z2, zf0, zf1, zf2⟩ := tag_of_row hrow
              obtain ⟨S, hS⟩ : ∃ S, S = sortF l := ⟨_, rfl⟩
              have hSl : S.length = l.length := by rw [hS, sortF_len]
              have hS8 : S.length ≤ 8 := by rw [hSl]; exact hz.2.2.1
              have hSm : ∀ p ∈ S, p.1.size ≤ 32 ∧ p.2.size ≤ 120 := fun p hp => by
                rw [hS] at hp
                obtain ⟨j, hj⟩ := mem_get (mem_sortF hp)
                have h3 := hz.2.2.2 j p hj
                exact ⟨(vnF_size h3.1).2, vvF_size h3.2.2⟩
              have hl8 : l.length ≤ 1000000 := by omega
              obtain ⟨D, hD⟩ : ∃ D, D = fmtK S (⟨#[60]⟩ ++ n) := ⟨_, rfl⟩
              have hXX : X = (D ++ ⟨#[62]⟩, 0) := by
                rw [HX.out]
                unfold fmtF
                dsimp only
                rw [HCH.out, hrz, if_pos rfl, if_neg (by simp), hD, hS]
              have HXX := Lib.hid hXX
              have HD := Lib.hid hD
              have HS : Hid (S = sortR l) := Lib.hid (by rw [hS, sort_same])
              have HSM := Lib.hid hSm
              have HRD := Lib.hid (HR.out.below hb)
              have HBO := Lib.hid hb
              clear hXX hz hS hSm hD hSl hrz hr hb hrow
              go_wp2_with (go_at_call 30; refine (SortPairs_any l _ a cap _ HRD.out hl8).mono ?_; rw [← HS.out]; rintro e w3 ⟨sv, rfl, hown3, hb3⟩; obtain ⟨so, sc, rfl⟩ := hown3.lenv)
              have HOWN3 := Lib.hid (hown3.mono (base' := w.heap.size) HBO.out.size)
              have HB3 := Lib.hid (bchain HBO.out hb3)
              clear hown3 hb3 z0 z1 z2 zf0 zf1 zf2 hmx
              go_loopw [9, 77] (fun o i wr => ∃ (k : Nat) (b : ByteArray), i = .int .i64 k ∧ o = .string b ∧ k ≤ S.length ∧ b.size ≤ 40 + 1000 * k ∧ fmtK (S.drop k) b = D ∧ OwnsP wr w.heap.size (.slice so S.length sc) S ∧ Below w.heap.size w wr) (fun _ i _ => S.length - (intOf i).toNat)
              case atStart => exact ⟨0, _, rfl, rfl, by omega, by rw [ByteArray.size_append]; show 1 + n.size ≤ _; omega, HD.out.symm, HOWN3.out, HB3.out⟩
              case round =>
                obtain ⟨k, b, rfl, rfl, hk, hbs, hf, hown, hb⟩ := hrel
                by_cases hk1 : k < S.length
                · have hk1' : (k : Int) < S.length := by omega
                  obtain ⟨p, hp⟩ : ∃ p, S[k]? = some p := ⟨S[k], List.getElem?_eq_getElem hk1⟩
                  obtain ⟨g, cap3, hv3, hbg, hle3, hmx3, c0, c1⟩ := hown.at hp
                  simp only [Value.slice.injEq, true_and] at hv3
                  obtain ⟨rfl, rfl⟩ := hv3
                  have hps := HSM.out p (List.mem_of_getElem? hp)
                  have hps1 := hps.1
                  have hps2 := hps.2
                  have hd : S.drop k = p :: S.drop (k + 1) := by
                    rw [List.drop_eq_getElem_cons hk1]
                    rw [List.getElem?_eq_getElem hk1] at hp
                    cases hp
                    rfl
                  have hf2 : fmtK (S.drop (k + 1)) (b ++ keyT p) = D := by rw [← hf, hd]; rfl
                  have hE := REscape_any p.2 (by omega)
                  have hEl := escT_len p.2
                  obtain ⟨E, hEE⟩ : ∃ E, E = escT p.2 := ⟨_, rfl⟩
                  rw [show esF p.2 p.2.size 0 ⟨#[]⟩ = E from hEE.symm] at hE
                  rw [← hEE] at hEl
                  have hE720 : E.size ≤ 720 := by omega
                  have hK : keyT p = (⟨#[32]⟩ ++ p.1 ++ ⟨#[61, 34]⟩ ++ E) ++ ⟨#[34]⟩ := by rw [hEE]; rfl
                  have HK := Lib.hid hK
                  have HE := Lib.hid hE
                  have HF2 := Lib.hid hf2
                  have HOWN := Lib.hid hown
                  have HB := Lib.hid hb
                  have hP4 := heap_alloc_new wr (.cells #[.string p.1, .string p.2] 52)
                  have hb4 := b0 wr (.cells #[.string p.1, .string p.2] 52)
                  clear hK hE hf2 hown hb hEE hd hf hp hEl hps
                  go_wp2_with fail
                  obtain ⟨W4, hW4⟩ : ∃ W4, wr.alloc (.cells #[.string p.1, .string p.2] 52) = W4 := ⟨_, rfl⟩
                  rw [hW4] at hP4 hb4 ⊢
                  obtain ⟨p0, p1, pf0, pf1⟩ := pair_of_row hP4
                  have HP4 := Lib.hid hP4
                  have HB4 := Lib.hid hb4
                  clear hP4 hb4 hW4 c0 c1
                  have q1 := str_add (⟨#[32]⟩ : ByteArray) p.1 (by show 1 + _ ≤ _; omega)
                  have q2 := str_add (⟨#[32]⟩ ++ p.1 : ByteArray) ⟨#[61, 34]⟩ (by rw [ByteArray.size_append]; show 1 + _ + 2 ≤ _; omega)
                  have q3 := str_add (⟨#[32]⟩ ++ p.1 ++ ⟨#[61, 34]⟩ : ByteArray) E (by simp only [ByteArray.size_append]; show 1 + _ + 2 + _ ≤ _; omega)
                  have q4 := str_add (⟨#[32]⟩ ++ p.1 ++ ⟨#[61, 34]⟩ ++ E : ByteArray) ⟨#[34]⟩ (by simp only [ByteArray.size_append]; show 1 + _ + 2 + _ + 1 ≤ _; omega)
                  have q5 := str_add b (⟨#[32]⟩ ++ p.1 ++ ⟨#[61, 34]⟩ ++ E ++ ⟨#[34]⟩ : ByteArray) (by simp only [ByteArray.size_append]; show _ + (1 + _ + 2 + _ + 1) ≤ _; omega)
                  go_region_held3 (fun w' => w'.cell? ⟨wr.heap.size, 0, none⟩ = some (.string p.1) ∧ w'.cell? ⟨wr.heap.size, 1, none⟩ = some (.string p.2) ∧ Below W4.heap.size W4 w')
                    (first | exact ⟨p0, p1, below_drew1 (Below.refl _ _)⟩ | assumption)
                    (first | (go_at_call 20; refine (HE.out _).mono ?_; rintro e w6 ⟨rfl, rfl⟩))
                  all_goals
                    have hB6 : Below w.heap.size w W4.drew := below_drew1 (bchain HB.out HB4.out)
                    have hO6 : OwnsP W4.drew w.heap.size (.slice (some ⟨g, 0, none⟩) S.length sc) S := (HOWN.out.below HB4.out).below (below_drew1 (Below.refl _ _))
                    have HB6 := Lib.hid hB6
                    have HO6 := Lib.hid hO6
                    clear hB6 hO6 p0 p1 pf0 pf1 q1 q2 q3 q4 q5
                    go_wp2
                    refine ⟨⟨k + 1, _, by go_num, rfl, by omega, ?_, ?_, HO6.out, HB6.out⟩, by simp [intOf]; omega⟩
                    · simp only [ByteArray.size_append]
                      rw [show (ByteArray.mk #[32]).size = 1 from rfl, show (ByteArray.mk #[61, 34]).size = 2 from rfl, show (ByteArray.mk #[34]).size = 1 from rfl]
                      omega
                    · rw [← HK.out]; exact HF2.out
                · have hk1' : ¬ (k : Int) < S.length := by omega
                  have hbD : b = D := by rw [← hf, List.drop_eq_nil_of_le (by omega)]; rfl
                  have HBD := Lib.hid hbD
                  have HB := Lib.hid hb
                  clear hbD hb hf hown
                  go_wp2
                  exact bodyPost_ret (v := .tuple #[.string (b ++ ⟨#[62]⟩), .int .i64 0]) (by simp [results, Try.results28, go_sem]) rfl ⟨by rw [HXX.out, HBD.out], HB.out⟩
end Go.Proofs.Ytaaegelefknkeab
