/- The law MarkupRoundTrips, walked. -/
import Derived.Test.YtaaegelefknkeabNwB
import Derived.Test.YtaaegelefknkeabNtQ
import Derived.Test.YtaaegelefknkeabNvD
import Derived.Test.YtaaegelefknkeabNtL
namespace Go.Proofs.Ytaaegelefknkeab
open Go.RowKit Go.Shelf
set_option linter.unusedSimpArgs false
set_option linter.unusedVariables false

theorem bcell' {W w1 : World} (hb : Below W.heap.size W w1) : (∀ b o, b < W.heap.size → w1.cell? ⟨b, o, none⟩ = W.cell? ⟨b, o, none⟩) ∧ (∀ b o, b < W.heap.size → w1.frozen? ⟨b, o, none⟩ = W.frozen? ⟨b, o, none⟩) :=
  ⟨fun b o h => hb.cell (p := ⟨b, o, none⟩) h, fun b o h => hb.frozen (p := ⟨b, o, none⟩) h⟩

set_option maxHeartbeats 2000000 in
theorem walk_Round (c : Bool) (n : ByteArray) (l : List Pr) (v : Value) (a : Option Addr) (cap : Nat) (more : Int) (w : World) (h : RdP w v l a cap) :
    Calls Try.prog 12 #[.agg #[.bool c, .string n, v], .int .i64 more] w fun e w' => e = .returned (.bool true) ∧ Below w.heap.size w w' := by
  have hbig := fun w h => large_some c n l v a cap w h
  have hfmt := fun w h => FormatTag_all c n l v a cap w h
  have hT := heap_alloc_new w (.cells #[.bool c, .string n, v] 33)
  have hbT := b0 w (.cells #[.bool c, .string n, v] 33)
  obtain ⟨W1, hW1⟩ : ∃ W1, w.alloc (.cells #[.bool c, .string n, v] 33) = W1 := ⟨_, rfl⟩
  rw [hW1] at hT hbT
  have hR1 := h.below hbT
  obtain rfl := h.eq
  have HW1 := Lib.hid hW1
  have HT := Lib.hid hT
  have HBT := Lib.hid hbT
  have HR1 := Lib.hid hR1
  have HBIG := Lib.hid hbig
  have HA := Lib.hid awake_any
  have HOW := Lib.hid (own_any c n a l.length cap)
  have HF := Lib.hid hfmt
  clear h hT hbT hR1 hW1 hbig hfmt
  by_cases h0 : more < 0
  · go_enter Try.func12, Try.ntmps12
    go_wp2_with fail
    rw [HW1.out]
    refine (HBIG.out _ HR1.out).mono ?_
    rintro e w2 ⟨⟨bb, rfl⟩, hb2⟩
    have HB2 := Lib.hid hb2
    clear hb2
    cases bb <;> go_wp2 <;> go_ret <;> exact ⟨rfl, bchain HBT.out HB2.out⟩
  by_cases h20 : 20 < more
  · go_enter Try.func12, Try.ntmps12
    go_wp2_with fail
    rw [HW1.out]
    refine (HBIG.out _ HR1.out).mono ?_
    rintro e w2 ⟨⟨bb, rfl⟩, hb2⟩
    have HB2 := Lib.hid hb2
    clear hb2
    cases bb <;> go_wp2 <;> go_ret <;> exact ⟨rfl, bchain HBT.out HB2.out⟩
  obtain ⟨m, rfl⟩ := Int.eq_ofNat_of_zero_le (show 0 ≤ more by omega)
  have hm20 : m ≤ 20 := by omega
  go_enter Try.func12, Try.ntmps12
  go_wp2_with fail
  rw [HW1.out]
  refine (HBIG.out _ HR1.out).mono ?_
  rintro e w2 ⟨⟨bb, rfl⟩, hb2⟩
  have hT2 := (hb2.block _ (Array.getElem?_eq_some_iff.1 HT.out).1).trans HT.out
  have HR2 := Lib.hid (HR1.out.below hb2)
  have HB2 := Lib.hid hb2
  obtain ⟨z0, z1, z2, zf0, zf1, zf2⟩ := tag_of_row hT2
  have HT2 := Lib.hid hT2
  clear hT2 hb2
  dsimp only
  cases bb with
  | true =>
    go_wp2
    go_ret
    exact ⟨rfl, bchain HBT.out HB2.out⟩
  | false =>
    by_cases hk : chkF c n l = 0
    · obtain ⟨T, hT, hrd, hTs, hgap⟩ := round_plain hk
      have hl8 := (chkF_parts hk).2.2.1
      rw [hT] at HF
      have HRD := Lib.hid hrd
      have HGAP := Lib.hid hgap
      have HK := Lib.hid hk
      clear hT hrd hgap hk
      go_wp2_with (first | (go_at_call 27; refine (HF.out _ HR2.out).mono ?_; rintro e w3 ⟨rfl, hb3⟩; have hT3 := (hb3.block _ (Array.getElem?_eq_some_iff.1 HT2.out).1).trans HT2.out; have HR3 := Lib.hid (HR2.out.below hb3); have HB3 := Lib.hid hb3; obtain ⟨y0, y1, y2, yf0, yf1, yf2⟩ := tag_of_row hT3; clear hT3 hb3) | (go_at_call 29; refine (HOW.out _).mono ?_; rintro e w4 ⟨rfl, hb4⟩; have HR4 := Lib.hid (HR3.out.below hb4); have HB4 := Lib.hid hb4; clear hb4))
      obtain ⟨W5, hW5⟩ : ∃ W5, w4.alloc (.cells #[.bool c, .string n, .slice a l.length cap] 36) = W5 := ⟨_, rfl⟩
      have hb5 : Below w4.heap.size w4 W5 := by rw [← hW5]; exact b0 w4 _
      have hU5 : W5.heap[w4.heap.size]? = some (.cells #[.bool c, .string n, .slice a l.length cap] 36 (0, 0)) := by rw [← hW5]; exact heap_alloc_new w4 _
      have HR5 := Lib.hid (HR4.out.below hb5)
      rw [hW5]
      refine (SortPairs_any l _ a cap W5 HR5.out (by omega)).mono ?_
      rintro e w6 ⟨v6, rfl, hown6, hb6⟩
      obtain ⟨o6, c6, rfl⟩ := hown6.lenv
      have hU6 := (hb6.block _ (Array.getElem?_eq_some_iff.1 hU5).1).trans hU5
      obtain ⟨u0, u1, u2, uf0, uf1, uf2⟩ := tag_of_row hU6
      have HLT := Lib.hid (Array.getElem?_eq_some_iff.1 hU5).1
      have HU6 := Lib.hid hU6
      have HO6 := Lib.hid hown6
      have HB5 := Lib.hid hb5
      have HB6 := Lib.hid hb6
      have HTS := Lib.hid hTs
      clear hU5 hU6 hown6 hb5 hb6 hW5 y0 y1 y2 yf0 yf1 yf2 z0 z1 z2 zf0 zf1 zf2
      go_wp2_with fail
      obtain ⟨W7, hW7⟩ : ∃ W7, w6.setCell ⟨w4.heap.size, 2, none⟩ (.slice o6 (sortR l).length c6) = W7 := ⟨_, rfl⟩
      have hU7 : W7.heap[w4.heap.size]? = some (.cells #[.bool c, .string n, .slice o6 (sortR l).length c6] 36 (0, 0)) := by rw [← hW7]; exact setCell_heap_same HU6.out 2 _
      have hlt4 : w4.heap.size < W5.heap.size := HLT.out
      have hb7 : Below w4.heap.size w4 W7 := by rw [← hW7]; exact below_set (bchain HB5.out HB6.out) (Nat.le_refl _) _ _
      have hO7 : OwnsP W7 W5.heap.size (.slice o6 (sortR l).length c6) (sortR l) := by rw [← hW7]; exact ownsRow_setCell_below HO6.out hlt4 _
      have HU7 := Lib.hid hU7
      have HB7 := Lib.hid hb7
      have HO7 := Lib.hid hO7
      rw [hW7]
      clear hU7 hb7 hO7 hW7 u0 u1 u2 uf0 uf1 uf2 hlt4
      go_wp2_with (go_at_call 23; refine (parse_ok (by have := HTS.out; omega) HRD.out _).mono ?_; rintro e w8 ⟨v8, rfl, hown8, hb8⟩; obtain ⟨o8, c8, rfl⟩ := hown8.lenv; have HO8 := Lib.hid hown8; have hU8 := (hb8.block _ (Array.getElem?_eq_some_iff.1 HU7.out).1).trans HU7.out; obtain ⟨x0, x1, x2, xf0, xf1, xf2⟩ := tag_of_row hU8; have hlt8 := (Array.getElem?_eq_some_iff.1 hU8).1; have HU8 := Lib.hid hU8; have HB8 := Lib.hid hb8; clear hb8 hown8 hU8)
      obtain ⟨W9, hW9⟩ : ∃ W9, w8.alloc (.cells #[.bool c, .string n, .slice o8 (sortR l).length c8] 33) = W9 := ⟨_, rfl⟩
      have hb9 : Below w8.heap.size w8 W9 := by rw [← hW9]; exact b0 w8 _
      obtain ⟨ra8, rc8, hrd8⟩ := (HO8.out.below hb9).rd
      obtain ⟨ra7, rc7, hrd7⟩ := ((HO7.out.below HB8.out).below hb9).rd
      rw [hW9]
      refine (equal_same c n (sortR l) _ _ ra8 ra7 rc8 rc7 W9 hrd8 hrd7).mono ?_
      rintro e w10 ⟨rfl, hb10⟩
      have hB47 := bchain (bchain HB7.out HB8.out) (bchain hb9 hb10)
      have hB210 := bchain (bchain HB3.out HB4.out) hB47
      have hB10 := bchain (bchain HBT.out HB2.out) hB210
      have hU10 := ((bchain hb9 hb10).block _ (Array.getElem?_eq_some_iff.1 HU8.out).1).trans HU8.out
      have hT10 := (hB210.block _ (Array.getElem?_eq_some_iff.1 HT2.out).1).trans HT2.out
      obtain ⟨s0, s1, s2, sf0, sf1, sf2⟩ := tag_of_row hU10
      obtain ⟨t0, t1, t2, tf0, tf1, tf2⟩ := tag_of_row hT10
      have hlt10 := (Array.getElem?_eq_some_iff.1 hU10).1
      have hltt10 := (Array.getElem?_eq_some_iff.1 hT10).1
      have HU10 := Lib.hid hU10
      have HT10 := Lib.hid hT10
      have HO10 := Lib.hid ((HO7.out.below HB8.out).below (bchain hb9 hb10))
      have HB10 := Lib.hid hB10
      have HL := Lib.hid hlt10
      have HLT' := Lib.hid hltt10
      clear hb9 hrd8 hrd7 hB47 hB210 hB10 hU10 hT10 hW9 hb10 x0 x1 x2 xf0 xf1 xf2
      by_cases hl : l = []
      · have hz : ¬ 0 < (sortR l).length := by rw [hl]; simp [sortR]
        clear hl
        go_wp2_with (go_at_call 16; refine (HA.out _).mono ?_; rintro e w11 ⟨rfl, hb11⟩; have HB11 := Lib.hid hb11; clear hb11)
        go_ret
        exact ⟨rfl, bchain HB10.out HB11.out⟩
      · have hz : 0 < (sortR l).length := by rw [sortR_len]; exact List.length_pos_iff.2 hl
        obtain ⟨hnT, hg20⟩ := HGAP.out hl
        have HG := Lib.hid hg20
        clear hl hg20
        go_wp2_with fail
        go_loop [11, 12] (fun g i => ∃ k : Nat, k ≤ m ∧ i = .int .i64 k ∧ g = .string (gapB k)) (fun _ i => m - (intOf i).toNat)
        case atStart => exact ⟨0, Nat.zero_le _, rfl, rfl⟩
        case round =>
          obtain ⟨k, hk, rfl, rfl⟩ := hrel
          have hgs := gapB_size k
          have hgs' : (gapB k).size ≤ 1600 := by omega
          have HGS := Lib.hid hgs
          clear hgs
          by_cases hkm : k < m
          · have hg := gapB_succ k
            have HGG := Lib.hid hg
            clear hg
            go_wp2
            go_round
            case rel => exact ⟨k + 1, by omega, by go_num, by rw [← HGG.out]⟩
            case measure => simp [intOf]; omega
          · obtain rfl : k = m := by omega
            obtain ⟨hgz, hgt⟩ := HG.out k hm20
            have HGZ := Lib.hid hgz
            have HGT := Lib.hid hgt
            clear hgz hgt
            have hn1 : ((1 : Int) + n.size) = ((1 + n.size : Nat) : Int) := by omega
            have hnx : ((1 + n.size : Nat) : Int) ≤ 9223372036854775807 := by omega
            have hs1 : ∀ W : World, (Instr.slice 9 (.string T) none (some (.int .i64 ((1 : Int) + n.size))) none).run Try.prog W = .ok (.string (T.extract 0 (1 + n.size))) W := fun W => by
              rw [hn1]
              exact run_slice_string_h W 9 T (by kernel_rfl) .i64 _ (by omega) (by omega)
            have hs2 : ∀ W : World, (Instr.slice 9 (.string T) (some (.int .i64 ((1 : Int) + n.size))) none none).run Try.prog W = .ok (.string (T.extract (1 + n.size) T.size)) W := fun W => by
              rw [hn1]
              exact run_slice_string_l W 9 T (by kernel_rfl) .i64 _ (by omega) (by omega)
            have q1 := str_add (T.extract 0 (1 + n.size)) (gapB k) (by rw [ByteArray.size_extract]; omega)
            have q2 := str_add (T.extract 0 (1 + n.size) ++ gapB k) (T.extract (1 + n.size) T.size) (by have := HGZ.out; rw [ByteArray.size_append] at this; omega)
            clear hn1 hnx
            go_wp2_with fail
            go_region_with (go_at_call 23; refine (parse_ok HGZ.out HGT.out _).mono ?_; rintro e w12 ⟨v12, rfl, hown12, hb12⟩; obtain ⟨o12, c12, rfl⟩ := hown12.lenv; obtain ⟨hcc, hff⟩ := bcell' hb12; have hsz12 := hb12.size; simp only [World.size_alloc, World.size_drew] at hsz12 hcc hff)
            · clear hcc hff hs1 hs2 q1 q2 s0 s1 s2 sf0 sf1 sf2 t0 t1 t2 tf0 tf1 tf2
              obtain ⟨W13, hW13⟩ : ∃ W13, w12.alloc (.cells #[.bool c, .string n, .slice o12 (sortR l).length c12] 33) = W13 := ⟨_, rfl⟩
              have hba : Below w12.heap.size w12 W13 := by rw [← hW13]; exact b0 w12 _
              have hbz : Below w10.heap.size w10 W13 := bchain (bchain (below_drew1 (Below.refl _ w10)) hb12) hba
              have hD : W13.heap[w12.heap.size]? = some (.cells #[.bool c, .string n, .slice o12 (sortR l).length c12] 33 (0, 0)) := by rw [← hW13]; exact heap_alloc_new w12 _
              have hO13 : OwnsP W13 w10.heap.size (.slice o12 (sortR l).length c12) (sortR l) := (hown12.mono (by simp)).below hba
              rw [hW13]
              have hU13 := (hbz.block _ HL.out).trans HU10.out
              obtain ⟨x0, x1, x2, xf0, xf1, xf2⟩ := tag_of_row hU13
              obtain ⟨y0, y1, y2, yf0, yf1, yf2⟩ := tag_of_row hD
              obtain ⟨ra3, rc3, hrd3⟩ := hO13.rd
              obtain ⟨ra7, rc7, hrd7⟩ := (HO10.out.below hbz).rd
              have HRA := Lib.hid hrd3
              have HRB := Lib.hid hrd7
              have HBZ := Lib.hid hbz
              clear hrd3 hrd7 hbz hU13 hD hO13 hba hW13 hb12 hown12
              go_wp2_with (first | (go_at_call 25; refine (equal_same c n (sortR l) _ _ ra3 ra7 rc3 rc7 W13 HRA.out HRB.out).mono ?_; rintro e w14 ⟨rfl, hb14⟩; have HB14 := Lib.hid hb14; clear hb14) | (go_at_call 16; refine (HA.out _).mono ?_; rintro e w15 ⟨rfl, hb15⟩; have HB15 := Lib.hid hb15; clear hb15))
              go_ret
              exact ⟨rfl, bchain (bchain (bchain HB10.out HBZ.out) HB14.out) HB15.out⟩
            · clear hcc hff hs1 hs2 q1 q2 s0 s1 s2 sf0 sf1 sf2 t0 t1 t2 tf0 tf1 tf2
              have hba := below_drew1 (b0 w10 (.cells #[.bool false, .string ⟨#[]⟩, .slice none 0 0] 33))
              have hrow := (hb12.block w10.heap.size (by simp)).trans (heap_alloc_new w10 (.cells #[.bool false, .string ⟨#[]⟩, .slice none 0 0] 33))
              obtain ⟨W13, hW13⟩ : ∃ W13, ((w12.setCell ⟨w10.heap.size, 0, none⟩ (.bool c)).setCell ⟨w10.heap.size, 1, none⟩ (.string n)).setCell ⟨w10.heap.size, 2, none⟩ (.slice o12 (sortR l).length c12) = W13 := ⟨_, rfl⟩
              have hbz : Below w10.heap.size w10 W13 := by rw [← hW13]; exact below_set (below_set (below_set (bchain hba hb12) (Nat.le_refl _) _ _) (Nat.le_refl _) _ _) (Nat.le_refl _) _ _
              have hD : W13.heap[w10.heap.size]? = some (.cells #[.bool c, .string n, .slice o12 (sortR l).length c12] 33 (0, 0)) := by rw [← hW13]; exact setCell_heap_same (setCell_heap_same (setCell_heap_same hrow 0 _) 1 _) 2 _
              have hO13 : OwnsP W13 (w10.heap.size + 1) (.slice o12 (sortR l).length c12) (sortR l) := by rw [← hW13]; exact ownsRow_setCell_below (ownsRow_setCell_below (ownsRow_setCell_below (hown12.mono (by simp)) (Nat.lt_succ_self w10.heap.size) _) (Nat.lt_succ_self w10.heap.size) _) (Nat.lt_succ_self w10.heap.size) _
              rw [hW13]
              have hU13 := (hbz.block _ HL.out).trans HU10.out
              obtain ⟨x0, x1, x2, xf0, xf1, xf2⟩ := tag_of_row hU13
              obtain ⟨y0, y1, y2, yf0, yf1, yf2⟩ := tag_of_row hD
              obtain ⟨ra3, rc3, hrd3⟩ := hO13.rd
              obtain ⟨ra7, rc7, hrd7⟩ := (HO10.out.below hbz).rd
              have HRA := Lib.hid hrd3
              have HRB := Lib.hid hrd7
              have HBZ := Lib.hid hbz
              clear hrd3 hrd7 hbz hU13 hD hO13 hba hW13 hb12 hown12
              go_wp2_with (first | (go_at_call 25; refine (equal_same c n (sortR l) _ _ ra3 ra7 rc3 rc7 W13 HRA.out HRB.out).mono ?_; rintro e w14 ⟨rfl, hb14⟩; have HB14 := Lib.hid hb14; clear hb14) | (go_at_call 16; refine (HA.out _).mono ?_; rintro e w15 ⟨rfl, hb15⟩; have HB15 := Lib.hid hb15; clear hb15))
              go_ret
              exact ⟨rfl, bchain (bchain (bchain HB10.out HBZ.out) HB14.out) HB15.out⟩
    · obtain ⟨k, hk'⟩ : ∃ k, chkF c n l = k := ⟨_, rfl⟩
      have hF0 : fmtF (c, n, l) = (⟨#[]⟩, k) := by unfold fmtF; rw [if_neg hk, ← hk']
      rw [hF0] at HF
      have hk0 : (k != 0) = true := by rw [bne_iff_ne]; rw [← hk']; exact hk
      clear hF0 hk hk'
      go_wp2_with (first | (go_at_call 27; refine (HF.out _ HR2.out).mono ?_; rintro e w3 ⟨rfl, hb3⟩; have HB3 := Lib.hid hb3; clear hb3) | (go_at_call 16; refine (HA.out _).mono ?_; rintro e w6 ⟨rfl, hb6⟩; have HB6 := Lib.hid hb6; clear hb6))
      go_ret
      exact ⟨rfl, bchain (bchain (bchain HBT.out HB2.out) HB3.out) HB6.out⟩
end Go.Proofs.Ytaaegelefknkeab
