/- The scanner's tag. -/
import Derived.Test.YtaaegelefknkeabMtF
namespace Go.Proofs.Ytaaegelefknkeab
open Go.RowKit Go.Shelf
set_option linter.unusedSimpArgs false

set_option maxHeartbeats 1000000 in
theorem tag_any (X : Nat) (s : ByteArray) (hs : s.size ≤ 1000000) (w : World) (hx : SX w X s 0) :
    Calls Try.prog 41 #[.pointer (some ⟨X, 0, none⟩)] w fun e w' => Sc X w w' ∧ TagPost w.heap.size (tagF s) e w' := by
  have hs2 : s.size ≤ 140737488351232 := by omega
  have T0 := Lib.hid (TS.start w hx)
  obtain ⟨r, hr⟩ : ∃ r, r = tagF s := ⟨_, rfl⟩
  rw [← hr]
  unfold tagF at hr
  have hXl := hx.lt
  obtain ⟨i0, hi, hz0, hz1', hz2⟩ := info_parts Try.info52
  have Hhi := Lib.hid hi
  clear hi
  have hXT : ¬ X = w.heap.size + 1 := by omega
  clear hx
  cases h60 : seesF s 0 60 with
  | false =>
    rw [h60, if_neg (by simp)] at hr
    have HRv := Lib.hid hr
    have H60 := Lib.hid h60
    clear hr h60
    go_enter Try.func41, Try.ntmps41
    go_wp2_with (go_at_call 52; refine (eat_no hs2 H60.out _ T0.out.sx (Nat.zero_le _)).mono ?_; rintro e w6 ⟨rfl, hsc6⟩)
    exact ⟨rfl, T0.out.sc.trans hsc6, by rw [HRv.out]; exact rfl⟩
  | true =>
    have hz1 := seesF_lt h60
    rw [h60, if_pos rfl] at hr
    have H60 := Lib.hid h60
    clear h60
    generalize hc : seesF s 1 47 = c at hr
    have HC := Lib.hid hc
    clear hc
    obtain ⟨b, hb⟩ : ∃ b, b = (if c = true then 2 else 1 : Nat) := ⟨_, rfl⟩
    rw [← hb] at hr
    cases c with
    | true =>
      obtain rfl : b = 2 := hb
      have hble : 2 ≤ s.size := (by have := seesF_lt HC.out; omega)
      cases hn : nameF s 2 with
      | error q =>
        rw [hn] at hr
        obtain ⟨q1, q2⟩ := q
        have HRv := Lib.hid hr
        have HN := Lib.hid hn
        clear hr hn
        go_enter Try.func41, Try.ntmps41
        go_wp2_with (first | (go_at_call 52; refine (eat_yes hs2 H60.out _ T0.out.sx (Nat.zero_le _)).mono ?_; rintro e w1 ⟨rfl, hsc1, hx1⟩; have hT1 := T0.out.go hsc1 hx1; clear hsc1 hx1) | (go_at_call 53; refine (sees_any X s 1 47 hs2 _ hT1.sx (by omega)).mono ?_; rw [HC.out]; rintro e w2 ⟨rfl, hb2⟩; have hT2 := hT1.below hb2; have h1 := hT2.sx.c1; have hl2 := hT2.sx.lt; have hf2 := hT2.sx.fz 1; obtain ⟨z0, z1, z2, zf0, zf1, zf2⟩ := tag_of_row hT2.tx; clear hb2 hT1) | (go_at_call 54; refine (name_err hs2 HN.out _ ((hT2.inc).set 0 (.bool true) rfl hT2.inc.own).sx (by omega)).mono ?_; rintro e w4 ⟨rfl, hsc4⟩))
        exact ⟨rfl, ((hT2.inc).set 0 (.bool true) rfl hT2.inc.own).sc.trans hsc4, by rw [HRv.out]; exact rfl⟩
      | ok e0 =>
        rw [hn] at hr
        dsimp only at hr
        have hbn := nameF_ok hn
        obtain ⟨n, hnn⟩ : ∃ n, n = s.extract 2 e0 := ⟨_, rfl⟩
        rw [← hnn] at hr
        obtain ⟨D, hD⟩ : ∃ D, D = keysC true s s.size e0 [] := ⟨_, rfl⟩
        rw [← hD] at hr
        have HR := Lib.hid hr
        have HN := Lib.hid hn
        have HNN := Lib.hid hnn
        have HD := Lib.hid hD
        clear hr hn hnn hD
        go_enter Try.func41, Try.ntmps41
        go_wp2_with (first | (go_at_call 52; refine (eat_yes hs2 H60.out _ T0.out.sx (Nat.zero_le _)).mono ?_; rintro e w1 ⟨rfl, hsc1, hx1⟩; have hT1 := T0.out.go hsc1 hx1; clear hsc1 hx1) | (go_at_call 53; refine (sees_any X s 1 47 hs2 _ hT1.sx (by omega)).mono ?_; rw [HC.out]; rintro e w2 ⟨rfl, hb2⟩; have hT2 := hT1.below hb2; have h1 := hT2.sx.c1; have hl2 := hT2.sx.lt; have hf2 := hT2.sx.fz 1; obtain ⟨z0, z1, z2, zf0, zf1, zf2⟩ := tag_of_row hT2.tx; clear hb2 hT1) | (go_at_call 54; refine (name_ok hs2 HN.out _ ((hT2.inc).set 0 (.bool true) rfl hT2.inc.own).sx (by omega)).mono ?_; rintro e w4 ⟨rfl, hsc4, hx4⟩; have hT4 := ((hT2.inc).set 0 (.bool true) rfl hT2.inc.own).go hsc4 hx4; rw [← HNN.out]; obtain ⟨y0, y1, y2, yf0, yf1, yf2⟩ := tag_of_row hT4.tx; have HT4 := Lib.hid (hT4.set 1 (.string n) rfl hT4.own); clear hT4 hsc4 hx4))
        clear hT2 h1 hl2 hf2 z0 z1 z2 zf0 zf1 zf2 y0 y1 y2 yf0 yf1 yf2
        go_loopw [25] (fun _ wr => ∃ (a : Nat) (v : Value) (l : List Pr) (f : Nat), a ≤ s.size ∧ s.size ≤ a + f ∧ keysC true s f a l = D ∧ TS w X s wr a true n v l ∧ l.length ≤ 8) (fun _ wr => s.size - atOf X wr)
        case atStart => exact ⟨e0, _, [], s.size, by omega, by omega, HD.out.symm, HT4.out, by simp⟩
        case round =>
          obtain ⟨a, v, l, f, ha, hf, hk, hT, h8⟩ := hrel
          obtain ⟨z0, z1, z2, zf0, zf1, zf2⟩ := tag_of_row hT.tx
          have HT := Lib.hid hT
          have HK := Lib.hid hk
          clear hT hk
          obtain ⟨c, hcc⟩ : ∃ c, c = true := ⟨_, rfl⟩
          have HRq : Hid (r = endF s c n (.ok (l, a))) := Lib.hid (by rw [HR.out, ← HK.out, hcc]; rfl)
          subst hcc
          cases h62 : seesF s a 62 with
          | false =>
            have HRv : Hid (r = .error (a, 3)) := Lib.hid (by rw [HRq.out, endF, h62, if_neg (by simp)])
            have H62 := Lib.hid h62
            clear h62
            go_wp2_with (first | (go_at_call 52; refine (eat_no hs2 H62.out _ HT.out.sx ha).mono ?_; rintro e w6 ⟨rfl, hsc6⟩))
            exact ⟨rfl, HT.out.sc.trans hsc6, by rw [HRv.out]; exact rfl⟩
          | true =>
            have ha1 := seesF_lt h62
            by_cases hend : a + 1 < s.size
            · have HRv : Hid (r = .error (a + 1, 3)) := Lib.hid (by rw [HRq.out, endF, h62, if_pos rfl, if_pos hend])
              have H62 := Lib.hid h62
              clear h62
              have hend' : (a : Int) + 1 < s.size := by omega
              go_wp2_with (first | (go_at_call 52; refine (eat_yes hs2 H62.out _ HT.out.sx ha).mono ?_; rintro e w6 ⟨rfl, hsc6, hx6⟩))
              have hT6 := HT.out.go hsc6 hx6
              have h0 := hT6.sx.c0
              have h1 := hT6.sx.c1
              have h1 : w6.cell? ⟨X, 1, none⟩ = some (.int .i64 ((a : Int) + 1)) := h1
              have hl6 := hT6.sx.lt
              have HT6 := Lib.hid hT6
              clear hT6 hsc6 hx6
              go_quiet (fail)
              go_wp2
              exact ⟨rfl, HT6.out.sc.trans (Sc.of (below_drewN (Below.refl _ _) nq)), by rw [HRv.out]; exact rfl⟩
            · have HRv : Hid (r = .ok (true, n, sortF l)) := Lib.hid (by rw [HRq.out, endF, h62, if_pos rfl, if_neg hend])
              have H62 := Lib.hid h62
              clear h62
              have hend' : ¬ (a : Int) + 1 < s.size := by omega
              go_wp2_with (first | (go_at_call 52; refine (eat_yes hs2 H62.out _ HT.out.sx ha).mono ?_; rintro e w6 ⟨rfl, hsc6, hx6⟩))
              have hT6 := HT.out.go hsc6 hx6
              have h0 := hT6.sx.c0
              have h1 := hT6.sx.c1
              have h1 : w6.cell? ⟨X, 1, none⟩ = some (.int .i64 ((a : Int) + 1)) := h1
              have hl6 := hT6.sx.lt
              have HT6 := Lib.hid hT6
              clear hT6 hsc6 hx6
              go_quiet (fail)
              obtain ⟨W7, hW7⟩ : ∃ W7, w6.drewN nq = W7 := ⟨_, rfl⟩
              have hT7 : TS w X s W7 (a + 1) true n v l := by rw [← hW7]; exact HT6.out.below (below_drewN (Below.refl _ _) nq)
              rw [hW7]
              obtain ⟨z0, z1, z2, zf0, zf1, zf2⟩ := tag_of_row hT7.tx
              obtain ⟨ra, rcap, hrd⟩ := hT7.own.rd
              have HT7 := Lib.hid hT7
              have HRD := Lib.hid hrd
              clear hT7 hW7 hrd h0 h1 hl6 HT6 nq
              go_wp2_with (go_at_call 47; refine (sorted_any l v ra rcap _ HRD.out (by omega)).mono ?_; rintro e w8 ⟨v8, rfl, hown8, hb8⟩; obtain ⟨o8, c8, rfl⟩ := hown8.lenv; have hT8 := HT7.out.below hb8; obtain ⟨y0, y1, y2, yf0, yf1, yf2⟩ := tag_of_row hT8.tx; obtain ⟨x0, x1, x2, xf0, xf1, xf2⟩ := tag_of_row hT8.rx)
              have hW7 : w.heap.size + 1 < W7.heap.size := (Array.getElem?_eq_some_iff.1 HT7.out.tx).1
              refine bodyPost_ret (v := .agg #[.bool true, .string n, .slice o8 (sortF l).length c8]) (by simp [results, Try.results41, go_sem, x0, x1, x2, xf0, xf1, xf2, y0, y1, y2, yf0, yf1, yf2]) rfl ⟨?_, ?_⟩
              · exact (((hT8.sc.setNew (by omega) _ _).setNew (Nat.le_refl _) _ _).setNew (Nat.le_refl _) _ _).setNew (Nat.le_refl _) _ _
              · rw [HRv.out]
                refine ⟨_, rfl, ?_⟩
                exact OwnsP.mono (ownsRow_setCell_below (ownsRow_setCell_below (ownsRow_setCell_below (ownsRow_setCell_below hown8 (by show w.heap.size + 1 < _; omega) _) (by show w.heap.size < _; omega) _) (by show w.heap.size < _; omega) _) (by show w.heap.size < _; omega) _) (by omega)
    | false =>
      obtain rfl : b = 1 := hb
      have hble : 1 ≤ s.size := (by omega)
      cases hn : nameF s 1 with
      | error q =>
        rw [hn] at hr
        obtain ⟨q1, q2⟩ := q
        have HRv := Lib.hid hr
        have HN := Lib.hid hn
        clear hr hn
        go_enter Try.func41, Try.ntmps41
        go_wp2_with (first | (go_at_call 52; refine (eat_yes hs2 H60.out _ T0.out.sx (Nat.zero_le _)).mono ?_; rintro e w1 ⟨rfl, hsc1, hx1⟩; have hT1 := T0.out.go hsc1 hx1; clear hsc1 hx1) | (go_at_call 53; refine (sees_any X s 1 47 hs2 _ hT1.sx (by omega)).mono ?_; rw [HC.out]; rintro e w2 ⟨rfl, hb2⟩; have hT2 := hT1.below hb2; have h1 := hT2.sx.c1; have hl2 := hT2.sx.lt; have hf2 := hT2.sx.fz 1; obtain ⟨z0, z1, z2, zf0, zf1, zf2⟩ := tag_of_row hT2.tx; clear hb2 hT1) | (go_at_call 54; refine (name_err hs2 HN.out _ hT2.sx (by omega)).mono ?_; rintro e w4 ⟨rfl, hsc4⟩))
        exact ⟨rfl, hT2.sc.trans hsc4, by rw [HRv.out]; exact rfl⟩
      | ok e0 =>
        rw [hn] at hr
        dsimp only at hr
        have hbn := nameF_ok hn
        obtain ⟨n, hnn⟩ : ∃ n, n = s.extract 1 e0 := ⟨_, rfl⟩
        rw [← hnn] at hr
        obtain ⟨D, hD⟩ : ∃ D, D = keysC false s s.size e0 [] := ⟨_, rfl⟩
        rw [← hD] at hr
        have HR := Lib.hid hr
        have HN := Lib.hid hn
        have HNN := Lib.hid hnn
        have HD := Lib.hid hD
        clear hr hn hnn hD
        go_enter Try.func41, Try.ntmps41
        go_wp2_with (first | (go_at_call 52; refine (eat_yes hs2 H60.out _ T0.out.sx (Nat.zero_le _)).mono ?_; rintro e w1 ⟨rfl, hsc1, hx1⟩; have hT1 := T0.out.go hsc1 hx1; clear hsc1 hx1) | (go_at_call 53; refine (sees_any X s 1 47 hs2 _ hT1.sx (by omega)).mono ?_; rw [HC.out]; rintro e w2 ⟨rfl, hb2⟩; have hT2 := hT1.below hb2; have h1 := hT2.sx.c1; have hl2 := hT2.sx.lt; have hf2 := hT2.sx.fz 1; obtain ⟨z0, z1, z2, zf0, zf1, zf2⟩ := tag_of_row hT2.tx; clear hb2 hT1) | (go_at_call 54; refine (name_ok hs2 HN.out _ hT2.sx (by omega)).mono ?_; rintro e w4 ⟨rfl, hsc4, hx4⟩; have hT4 := hT2.go hsc4 hx4; rw [← HNN.out]; obtain ⟨y0, y1, y2, yf0, yf1, yf2⟩ := tag_of_row hT4.tx; have HT4 := Lib.hid (hT4.set 1 (.string n) rfl hT4.own); clear hT4 hsc4 hx4))
        clear hT2 h1 hl2 hf2 z0 z1 z2 zf0 zf1 zf2 y0 y1 y2 yf0 yf1 yf2
        go_loopw [25] (fun _ wr => ∃ (a : Nat) (v : Value) (l : List Pr) (f : Nat), a ≤ s.size ∧ s.size ≤ a + f ∧ keysC false s f a l = D ∧ TS w X s wr a false n v l ∧ l.length ≤ 8) (fun _ wr => s.size - atOf X wr)
        case atStart => exact ⟨e0, _, [], s.size, by omega, by omega, HD.out.symm, HT4.out, by simp⟩
        case round =>
          obtain ⟨a, v, l, f, ha, hf, hk, hT, h8⟩ := hrel
          obtain ⟨z0, z1, z2, zf0, zf1, zf2⟩ := tag_of_row hT.tx
          have HT := Lib.hid hT
          have HK := Lib.hid hk
          clear hT hk
          cases h32 : seesF s a 32 with
          | false =>
            have hkk : keysF s f a l = .ok (l, a) := by
              cases f with
              | zero => rfl
              | succ f => rw [keysF, h32, if_neg (by simp)]
            have HRq : Hid (r = endF s false n (.ok (l, a))) := Lib.hid (by rw [HR.out, ← HK.out, keysC, if_neg (by simp), hkk])
            have H32 := Lib.hid h32
            clear h32 hkk
            cases h62 : seesF s a 62 with
            | false =>
              have HRv : Hid (r = .error (a, 3)) := Lib.hid (by rw [HRq.out, endF, h62, if_neg (by simp)])
              have H62 := Lib.hid h62
              clear h62
              go_wp2_with (first | (go_at_call 53; refine (sees_any X s a 32 hs2 _ HT.out.sx ha).mono ?_; rw [H32.out]; rintro e w5 ⟨rfl, hb5⟩; have hT5 := HT.out.below hb5; clear hb5) | (go_at_call 52; refine (eat_no hs2 H62.out _ hT5.sx ha).mono ?_; rintro e w6 ⟨rfl, hsc6⟩))
              exact ⟨rfl, hT5.sc.trans hsc6, by rw [HRv.out]; exact rfl⟩
            | true =>
              have ha1 := seesF_lt h62
              by_cases hend : a + 1 < s.size
              · have HRv : Hid (r = .error (a + 1, 3)) := Lib.hid (by rw [HRq.out, endF, h62, if_pos rfl, if_pos hend])
                have H62 := Lib.hid h62
                clear h62
                have hend' : (a : Int) + 1 < s.size := by omega
                go_wp2_with (first | (go_at_call 53; refine (sees_any X s a 32 hs2 _ HT.out.sx ha).mono ?_; rw [H32.out]; rintro e w5 ⟨rfl, hb5⟩; have hT5 := HT.out.below hb5; clear hb5) | (go_at_call 52; refine (eat_yes hs2 H62.out _ hT5.sx ha).mono ?_; rintro e w6 ⟨rfl, hsc6, hx6⟩))
                have hT6 := hT5.go hsc6 hx6
                have h0 := hT6.sx.c0
                have h1 := hT6.sx.c1
                have h1 : w6.cell? ⟨X, 1, none⟩ = some (.int .i64 ((a : Int) + 1)) := h1
                have hl6 := hT6.sx.lt
                have HT6 := Lib.hid hT6
                clear hT6 hsc6 hx6
                go_quiet (fail)
                go_wp2
                exact ⟨rfl, HT6.out.sc.trans (Sc.of (below_drewN (Below.refl _ _) nq)), by rw [HRv.out]; exact rfl⟩
              · have HRv : Hid (r = .ok (false, n, sortF l)) := Lib.hid (by rw [HRq.out, endF, h62, if_pos rfl, if_neg hend])
                have H62 := Lib.hid h62
                clear h62
                have hend' : ¬ (a : Int) + 1 < s.size := by omega
                go_wp2_with (first | (go_at_call 53; refine (sees_any X s a 32 hs2 _ HT.out.sx ha).mono ?_; rw [H32.out]; rintro e w5 ⟨rfl, hb5⟩; have hT5 := HT.out.below hb5; clear hb5) | (go_at_call 52; refine (eat_yes hs2 H62.out _ hT5.sx ha).mono ?_; rintro e w6 ⟨rfl, hsc6, hx6⟩))
                have hT6 := hT5.go hsc6 hx6
                have h0 := hT6.sx.c0
                have h1 := hT6.sx.c1
                have h1 : w6.cell? ⟨X, 1, none⟩ = some (.int .i64 ((a : Int) + 1)) := h1
                have hl6 := hT6.sx.lt
                have HT6 := Lib.hid hT6
                clear hT6 hsc6 hx6
                go_quiet (fail)
                obtain ⟨W7, hW7⟩ : ∃ W7, w6.drewN nq = W7 := ⟨_, rfl⟩
                have hT7 : TS w X s W7 (a + 1) false n v l := by rw [← hW7]; exact HT6.out.below (below_drewN (Below.refl _ _) nq)
                rw [hW7]
                obtain ⟨z0, z1, z2, zf0, zf1, zf2⟩ := tag_of_row hT7.tx
                obtain ⟨ra, rcap, hrd⟩ := hT7.own.rd
                have HT7 := Lib.hid hT7
                have HRD := Lib.hid hrd
                clear hT7 hW7 hrd h0 h1 hl6 HT6 nq
                go_wp2_with (go_at_call 47; refine (sorted_any l v ra rcap _ HRD.out (by omega)).mono ?_; rintro e w8 ⟨v8, rfl, hown8, hb8⟩; obtain ⟨o8, c8, rfl⟩ := hown8.lenv; have hT8 := HT7.out.below hb8; obtain ⟨y0, y1, y2, yf0, yf1, yf2⟩ := tag_of_row hT8.tx; obtain ⟨x0, x1, x2, xf0, xf1, xf2⟩ := tag_of_row hT8.rx)
                have hW7 : w.heap.size + 1 < W7.heap.size := (Array.getElem?_eq_some_iff.1 HT7.out.tx).1
                refine bodyPost_ret (v := .agg #[.bool false, .string n, .slice o8 (sortF l).length c8]) (by simp [results, Try.results41, go_sem, x0, x1, x2, xf0, xf1, xf2, y0, y1, y2, yf0, yf1, yf2]) rfl ⟨?_, ?_⟩
                · exact (((hT8.sc.setNew (by omega) _ _).setNew (Nat.le_refl _) _ _).setNew (Nat.le_refl _) _ _).setNew (Nat.le_refl _) _ _
                · rw [HRv.out]
                  refine ⟨_, rfl, ?_⟩
                  exact OwnsP.mono (ownsRow_setCell_below (ownsRow_setCell_below (ownsRow_setCell_below (ownsRow_setCell_below hown8 (by show w.heap.size + 1 < _; omega) _) (by show w.heap.size < _; omega) _) (by show w.heap.size < _; omega) _) (by show w.heap.size < _; omega) _) (by omega)
          | true =>
            have ha1 := seesF_lt h32
            obtain ⟨f, rfl⟩ : ∃ g, f = g + 1 := ⟨f - 1, by omega⟩
            obtain ⟨e1, he1⟩ : ∃ e1, e1 = spTo s s.size a := ⟨_, rfl⟩
            have hD1 : D = (match keyF s e1 l with | .error q => .error q | .ok q => keysF s f q.2 (l ++ [q.1])) := by
              rw [← HK.out, keysC, if_neg (by simp), keysF, h32, if_pos rfl, he1]
              cases keyF s (spTo s s.size a) l <;> rfl
            have H32 := Lib.hid h32
            have HD1 := Lib.hid hD1
            have HE1 := Lib.hid he1
            clear h32 hD1 he1 HK
            go_wp2_with (go_at_call 53; refine (sees_any X s a 32 hs2 _ HT.out.sx ha).mono ?_; rw [H32.out]; rintro e w5 ⟨rfl, hb5⟩)
            have HT5 := Lib.hid (HT.out.below hb5)
            have HA := Lib.hid HT.out.sx.atOf
            obtain ⟨wo, rfl⟩ : ∃ x, x = wr := ⟨_, rfl⟩
            clear hb5 HT
            go_loopw [27] (fun _ wr => ∃ b g : Nat, a ≤ b ∧ b ≤ s.size ∧ s.size ≤ b + g ∧ spTo s g b = e1 ∧ TS w X s wr b false n v l) (fun _ wr => s.size - atOf X wr)
            case atStart => exact ⟨a, s.size, by omega, by omega, by omega, HE1.out.symm, HT5.out⟩
            case round =>
              obtain ⟨b, g, hab, hbs, hg, hsp, hT⟩ := hrel
              have HT := Lib.hid hT
              clear hT
              cases hq : seesF s b 32 with
              | true =>
                have hb1 := seesF_lt hq
                obtain ⟨g, rfl⟩ : ∃ k, g = k + 1 := ⟨g - 1, by omega⟩
                rw [spTo, hq, if_pos rfl] at hsp
                have HQ := Lib.hid hq
                have HSP := Lib.hid hsp
                clear hq hsp
                go_wp2_with (go_at_call 53; refine (sees_any X s b 32 hs2 _ HT.out.sx hbs).mono ?_; rw [HQ.out]; rintro e w6 ⟨rfl, hb6⟩; have hT6 := HT.out.below hb6; have h1 := hT6.sx.c1; have hl6 := hT6.sx.lt; have hf6 := hT6.sx.fz 1; have HT6 := Lib.hid hT6; clear hT6 hb6)
                go_roundw
                case rel => exact ⟨b + 1, g, by omega, by omega, by omega, HSP.out, HT6.out.inc⟩
                case measure => rw [HT.out.sx.atOf, HT6.out.inc.sx.atOf]; omega
              | false =>
                have hbe : e1 = b := by
                  rw [← hsp]
                  cases g with
                  | zero => rfl
                  | succ g => rw [spTo, hq, if_neg (by simp)]
                obtain rfl := hbe
                obtain ⟨ov, oc, rfl⟩ := HT.out.own.lenv
                have HQ := Lib.hid hq
                clear hq hsp
                cases hk : keyF s e1 l with
                | error q =>
                  obtain ⟨q1, q2⟩ := q
                  have HRv : Hid (r = .error (q1, q2)) := Lib.hid (by rw [HR.out, HD1.out, hk]; rfl)
                  have HK := Lib.hid hk
                  clear hk
                  go_wp2_with (go_at_call 53; refine (sees_any X s e1 32 hs2 _ HT.out.sx hbs).mono ?_; rw [HQ.out]; rintro e w6 ⟨rfl, hb6⟩)
                  have hT6 : TS w X s w6.drew e1 false n (.slice ov l.length oc) l := (HT.out.below hb6).below (below_drewN (Below.refl _ _) 1)
                  obtain ⟨z0, z1, z2, zf0, zf1, zf2⟩ := tag_of_row (HT.out.below hb6).tx
                  obtain ⟨ra, rcap, hrd⟩ := hT6.own.rd
                  have HT6 := Lib.hid hT6
                  have HRD := Lib.hid hrd
                  clear hT6 hb6 hrd
                  go_region_with (first | (go_at_call 55; refine (key_err hs HK.out _ HT6.out.sx hbs _ _ _ HRD.out).mono ?_; rintro e w7 ⟨rfl, hsc7⟩) | (refine by_dummy wo ⟨rfl, HT6.out.sc.trans (by assumption), by rw [HRv.out]; exact rfl⟩ ?_))
                  all_goals trivial
                | ok q =>
                  obtain ⟨⟨q1, q2⟩, q3⟩ := q
                  have hko := keyF_ok hk
                  have HDq : Hid (keysF s f q3 (l ++ [(q1, q2)]) = D) := Lib.hid (by rw [HD1.out, hk])
                  have HK := Lib.hid hk
                  clear hk
                  go_wp2_with (go_at_call 53; refine (sees_any X s e1 32 hs2 _ HT.out.sx hbs).mono ?_; rw [HQ.out]; rintro e w6 ⟨rfl, hb6⟩)
                  have hT6 : TS w X s w6.drew e1 false n (.slice ov l.length oc) l := (HT.out.below hb6).below (below_drewN (Below.refl _ _) 1)
                  obtain ⟨z0, z1, z2, zf0, zf1, zf2⟩ := tag_of_row (HT.out.below hb6).tx
                  obtain ⟨ra, rcap, hrd⟩ := hT6.own.rd
                  have HT6 := Lib.hid hT6
                  have HRD := Lib.hid hrd
                  clear hT6 hb6 hrd
                  go_region_law
                    (first
                      | (refine step_append_lies _ (by rfl) _ _ 31 (by rfl) (w.heap.size + 2) 52 i0 _ 2 32 Try.underlying31 Hhi.out hz0 hz1' hz2 rfl (by decide) (.slice ov l.length oc) l.length (pcells l) (by simp [Act.eval, Act.put]) (World.ownsRow.alloc hT7.own _) ⟨w7.heap.size, 0, none⟩ 1 1 [.string q1, .string q2] (by simp [Act.eval, Act.put]) rfl (cell_two_new _ _ _ _) (by simp [Value.oneCell']) (by omega) (by unfold maxLen; omega) (by omega) (by have := hT7.sc.size; have := (Array.getElem?_eq_some_iff.1 hT7.tx).1; rw [World.size_alloc]; omega) _ rfl ?_; intro g gcap w9 hown9 hgrow9 hat9 hlt9; obtain ⟨_, _, u2, _, _, uf2⟩ := tag_of_row (hT7.grown hgrow9))
                      | (go_simp; go_at_call 55; refine (key_ok hs HK.out _ HT6.out.sx hbs _ _ _ HRD.out).mono ?_; rintro e w7 ⟨rfl, hsc7, hx7⟩; have hT7 := HT6.out.go hsc7 hx7; obtain ⟨_, _, y2, _, _, yf2⟩ := tag_of_row hT7.tx; have hlt7 := (Array.getElem?_eq_some_iff.1 hT7.tx).1; try dsimp only))
                  all_goals
                    have hT10 := hT7.append (v' := .slice (some ⟨g, 0, none⟩) (l.length + 1) gcap) (l' := l ++ [(q1, q2)]) hgrow9 (by unfold OwnsP; rw [pcells_append, List.length_append]; exact hown9)
                    have HT10 := Lib.hid hT10
                    clear hT10 hgrow9 hown9 hat9 u2 uf2 y2 yf2 z0 z1 z2 zf0 zf1 zf2
                    go_wp2
                    refine ⟨⟨q3, _, l ++ [(q1, q2)], f, hko.2.1, by omega, ?_, HT10.out, ?_⟩, ?_⟩
                    · rw [keysC, if_neg (by simp)]; exact HDq.out
                    · rw [List.length_append]; have := hko.2.2.1; show l.length + 1 ≤ 8; omega
                    · rw [HA.out, HT10.out.sx.atOf]; have := hko.1; have := hko.2.1; omega
end Go.Proofs.Ytaaegelefknkeab
