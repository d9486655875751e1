/- The reference's ParseTag: roads. -/
import Derived.Test.YtaaegelefknkeabNvF
import Derived.Test.YtaaegelefknkeabNtL
import Derived.Test.YtaaegelefknkeabNtK
namespace Go.Proofs.Ytaaegelefknkeab
open Go.RowKit Go.Shelf
set_option linter.unusedSimpArgs false
set_option linter.unusedVariables false

theorem nameK_ok {s : ByteArray} {a b : Nat} {l : List Pr} (h : nameK s a l = .ok b) : nameF s a = .ok b ∧ l.length ≠ 8 := by
  unfold nameK at h
  split at h
  · cases h
  · rename_i b' hb
    split at h
    · cases h
    · split at h
      · cases h
      · rename_i h8
        cases h
        exact ⟨hb, h8⟩
/-- What the keys' loop keeps: not over, and the rest to come; or over, as the keys fail. -/
def KS (s : ByteArray) (f A : Nat) (l : List Pr) (p q : Int) (o : Bool) (D : Except (Nat × Int) (List Pr × Nat)) : Prop :=
  (o = false ∧ p = 0 ∧ q = 0 ∧ l.length ≤ 8 ∧ s.size ≤ A + f ∧ keysF s f A l = D) ∨ (o = true ∧ ∃ p' : Nat, p = p' ∧ D = .error (p', q))

set_option maxRecDepth 10000 in
set_option maxHeartbeats 40000000 in
theorem RParseTag_open_a (s : ByteArray) (hs : s.size ≤ 1000000) (h60 : seesF s 0 60 = true) (h47 : seesF s 1 47 = false) (h1z : 1 < s.size) (b : Nat) (hn : nameF s 1 = .ok b) (w : World) :
    Calls Try.prog 24 #[.string s] w fun e w' => PtPost w.heap.size (endF s false (s.extract 1 b) (keysF s s.size b [])) e w' ∧ Below w.heap.size w w' := by
  obtain ⟨W1, hW1⟩ : ∃ W1, w.alloc (.cells #[.bool false, .string ⟨#[]⟩, .slice none 0 0] 36) = W1 := ⟨_, rfl⟩
  obtain ⟨W2, hW2⟩ : ∃ W2, W1.alloc (.cells #[.string s, .int .i64 0, .bool false, .string ⟨#[]⟩, .slice none 0 0, .int .i64 0, .int .i64 0, .bool false] 66) = W2 := ⟨_, rfl⟩
  have z1 : W1.heap.size = w.heap.size + 1 := by rw [← hW1, World.size_alloc]
  have hT : RS W2 (w.heap.size + 1) s W2 0 false ⟨#[]⟩ (.slice none 0 0) [] 0 0 false := by
    have := RS.start W1 s
    rw [hW2, z1] at this
    exact this
  have hb1 : Below w.heap.size w W1 := by rw [← hW1]; exact b0 w _
  have hb2 : Below W1.heap.size W1 W2 := by rw [← hW2]; exact b0 W1 _
  have HB := Lib.hid (bchain hb1 hb2)
  have HRT : Hid (W2.heap[w.heap.size]? = some (.cells #[.bool false, .string ⟨#[]⟩, .slice none 0 0] 36 (0, 0))) := Lib.hid (by
    rw [hb2.block _ (by omega), ← hW1]; exact heap_alloc_new w _)
  have HT := Lib.hid hT
  have HW : Hid ((w.alloc (.cells #[.bool false, .string ⟨#[]⟩, .slice none 0 0] 36)).alloc (.cells #[.string s, .int .i64 0, .bool false, .string ⟨#[]⟩, .slice none 0 0, .int .i64 0, .int .i64 0, .bool false] 66) = W2) := Lib.hid (by rw [hW1, hW2])
  clear hW1 hW2 z1 hT hb1 hb2
  have H60 := Lib.hid h60
  have h1s := seesF_lt h60
  clear h60
  have hq := sees_not h47 h1z
  have H47 := Lib.hid h47
  clear h47
  have hbn := nameF_ok hn
  have HN := Lib.hid hn
  obtain ⟨n, hnn⟩ : ∃ n, n = s.extract 1 b := ⟨_, rfl⟩
  obtain ⟨D, hD⟩ : ∃ D, keysF s s.size b [] = D := ⟨_, rfl⟩
  obtain ⟨R, hR⟩ : ∃ R, R = endF s false n D := ⟨_, rfl⟩
  rw [hD, ← hnn, ← hR]
  have HNN := Lib.hid hnn
  have HD := Lib.hid hD
  have HR := Lib.hid hR
  clear hn hnn hD hR
  have HX2 : Hid ((⟨#[61, 34]⟩ : ByteArray).size ≤ 1000000) := Lib.hid (by decide)
  have HX1 : Hid ((⟨#[62]⟩ : ByteArray).size ≤ 1000000) := Lib.hid (by decide)
  obtain ⟨i0, hi, hz0, hz1', hz2⟩ := info_parts Try.info52
  have Hhi := Lib.hid hi
  clear hi
  go_enter Try.func24, Try.ntmps24
  go_wp2_with (first | (go_at_call 42; rw [HW.out]; refine (want1_yes 60 (d := 60) rfl hs (Nat.zero_le _) H60.out _ HT.out.rx).mono ?_; rintro e w1 ⟨rfl, hsc1, hx1⟩; have hT1 : RS W2 (w.heap.size + 1) s w1 1 false ⟨#[]⟩ (.slice none 0 0) [] 0 0 false := HT.out.go hsc1 hx1; have h1 : w1.cell? ⟨w.heap.size + 1, 1, none⟩ = some (.int .i64 1) := hT1.rx.c1; have h2 := hT1.rx.c2; have h7 := hT1.rx.c7; have hl := hT1.rx.lt; have hf1 := hT1.rx.fz 1; have hf2 := hT1.rx.fz 2; have HT1 := Lib.hid hT1; clear hT1 hsc1 hx1) | (go_at_call 43; refine (rsname_ok hs (by omega) HN.out HT1.out).mono ?_; rintro e w2 ⟨rfl, hT2⟩; rw [← HNN.out]; have g3 := hT2.rx.c3; have g7 := hT2.rx.c7; have gl := hT2.rx.lt; have gf := hT2.rx.fz 3; have HT2 := Lib.hid hT2; clear hT2))
  clear h1 h2 h7 hl hf1 hf2 g3 g7 gl gf hq
  go_loopw [53] (fun _ wr => ∃ (A : Nat) (v : Value) (l : List Pr) (p q : Int) (o : Bool) (f : Nat), A ≤ s.size ∧ RS W2 (w.heap.size + 1) s wr A false n v l p q o ∧ KS s f A l p q o D) (fun _ wr => leftOf s (w.heap.size + 1) wr)
  case atStart => exact ⟨b, _, [], 0, 0, false, s.size, hbn.2.1, HT2.out.named n, .inl ⟨rfl, rfl, rfl, by simp, by omega, HD.out⟩⟩
  case round =>
    obtain ⟨A, v, l, p, q, o, f, hAs, hT, hst⟩ := hrel
    clear HN HNN HT2 HT1 H60 HT
    rcases hst with ⟨rfl, rfl, rfl, h8l, hf, hk⟩ | ⟨rfl, p', rfl, hk⟩
    · have HK0 := Lib.hid hk
      clear hk
      have h1 := hT.rx.c1
      have h2 := hT.rx.c2
      have h7 := hT.rx.c7
      have hl := hT.rx.lt
      have HTr := Lib.hid hT
      clear hT
      cases h32 : seesF s A 32 with
      | false =>
        have HRe : Hid (R = endF s false n (.ok (l, A))) := Lib.hid (by
          rw [HR.out, ← HK0.out]
          cases f with
          | zero => rfl
          | succ f => rw [keysF, h32, if_neg (by simp)])
        by_cases hAz : A < s.size
        · have hAq := sees_not h32 hAz
          have H32 := Lib.hid h32
          clear h32
          cases h62 : seesF s A 62 with
          | false =>
            have HRv : Hid (R = .error (A, 3)) := Lib.hid (by rw [HRe.out, endF, h62, if_neg (by simp)])
            have H62 := Lib.hid h62
            clear h62
            go_wp2_with (go_at_call 42; refine (want1_no 62 (d := 62) rfl hs (by omega) H62.out _ HTr.out.rx).mono ?_; rintro e w5 ⟨rfl, hsc5, hx5⟩; have hT5 := HTr.out.go hsc5 hx5; have k5 := hT5.rx.c5; have k6 := hT5.rx.c6; have k7 := hT5.rx.c7; have kl := hT5.rx.lt; have HT5 := Lib.hid hT5; have hr5 := hT5.sc.kept HRT.out (by omega); obtain ⟨x0, x1, x2, xf0, xf1, xf2⟩ := tag_of_row hr5; have HR5 := Lib.hid hr5; clear hT5 hsc5 hx5 hr5)
            go_region_held3 (fun w' => w'.cell? ⟨w.heap.size + 1, 5, none⟩ = some (.int .i64 A) ∧ w'.cell? ⟨w.heap.size + 1, 6, none⟩ = some (.int .i64 3)) (go_keep) (fail)
            all_goals
              go_wp2
              refine bodyPost_ret (v := .tuple #[.agg #[.bool false, .string ⟨#[]⟩, .slice none 0 0], .int .i64 A, .int .i64 3]) (by simp [results, Try.results24, go_sem, x0, x1, x2, xf0, xf1, xf2, World.cell?_setCell_far, World.cell?_setCell_same', World.cell?_setCell_other]) rfl ⟨by rw [HRv.out]; rfl, ?_⟩
              have hb5 : Below w.heap.size w w5 := HB.out.trans ⟨HT5.out.sc.os, HT5.out.sc.tape, HT5.out.sc.output, HT5.out.sc.size, fun k hk => HT5.out.sc.block k (by have := HT5.out.lt; omega) (by omega)⟩
              repeat' first | exact hb5 | (refine below_drew1 ?_) | (refine below_set ?_ (Nat.le_refl _) _ _)
          | true =>
            have hA1 := seesF_lt h62
            by_cases hend : A + 1 < s.size
            · have HRv : Hid (R = .error (A + 1, 3)) := Lib.hid (by rw [HRe.out, endF, h62, if_pos rfl, if_pos hend])
              have H62 := Lib.hid h62
              clear h62
              have hend' : (A : Int) + 1 < s.size := by omega
              go_wp2_with (first | (go_at_call 42; refine (want1_yes 62 (d := 62) rfl hs (by omega) H62.out _ HTr.out.rx).mono ?_; rintro e w4 ⟨rfl, hsc4, hx4⟩; have hT4 := HTr.out.go hsc4 hx4; have k1 : w4.cell? ⟨w.heap.size + 1, 1, none⟩ = some (.int .i64 ((A : Int) + 1)) := hT4.rx.c1; have k7 := hT4.rx.c7; have kl := hT4.rx.lt; have HT4 := Lib.hid hT4; clear hT4 hsc4 hx4) | (go_at_call 45; refine (fail_first ((A : Int) + 1) 3 _ HT4.out.rx).mono ?_; rintro e w5 ⟨rfl, hsc5, hx5⟩; clear k1 k7 kl; have hT5 := HT4.out.go hsc5 hx5; have k5 := hT5.rx.c5; have k6 := hT5.rx.c6; have k7 := hT5.rx.c7; have kl := hT5.rx.lt; have HT5 := Lib.hid hT5; have hr5 := hT5.sc.kept HRT.out (by omega); obtain ⟨x0, x1, x2, xf0, xf1, xf2⟩ := tag_of_row hr5; have HR5 := Lib.hid hr5; clear hT5 hsc5 hx5 hr5))
              go_region_held3 (fun w' => w'.cell? ⟨w.heap.size + 1, 5, none⟩ = some (.int .i64 ((A : Int) + 1)) ∧ w'.cell? ⟨w.heap.size + 1, 6, none⟩ = some (.int .i64 3)) (go_keep) (fail)
              all_goals
                go_wp2
                refine bodyPost_ret (v := .tuple #[.agg #[.bool false, .string ⟨#[]⟩, .slice none 0 0], .int .i64 ((A : Int) + 1), .int .i64 3]) (by simp [results, Try.results24, go_sem, x0, x1, x2, xf0, xf1, xf2, World.cell?_setCell_far, World.cell?_setCell_same', World.cell?_setCell_other]) rfl ⟨(show Ending.returned (.tuple #[.agg #[.bool false, .string ⟨#[]⟩, .slice none 0 0], .int .i64 ((A : Int) + 1), .int .i64 3]) = Ending.returned (.tuple #[.agg #[.bool false, .string ⟨#[]⟩, .slice none 0 0], .int .i64 ((A + 1 : Nat) : Int), .int .i64 3]) from by rw [Int.natCast_add]; rfl) |> fun h => by rw [HRv.out]; exact h, ?_⟩
                have hb5 : Below w.heap.size w w5 := HB.out.trans ⟨HT5.out.sc.os, HT5.out.sc.tape, HT5.out.sc.output, HT5.out.sc.size, fun k hk => HT5.out.sc.block k (by have := HT5.out.lt; omega) (by omega)⟩
                repeat' first | exact hb5 | (refine below_drew1 ?_) | (refine below_set ?_ (Nat.le_refl _) _ _)
            · have HRv : Hid (R = .ok (false, n, sortF l)) := Lib.hid (by rw [HRe.out, endF, h62, if_pos rfl, if_neg hend])
              have H62 := Lib.hid h62
              clear h62
              have hend' : ¬ (A : Int) + 1 < s.size := by omega
              obtain ⟨ra, rcap, hrd⟩ := HTr.out.own.rd
              have HRDr := Lib.hid hrd
              clear hrd
              go_wp2_with (first | (go_at_call 42; refine (want1_yes 62 (d := 62) rfl hs (by omega) H62.out _ HTr.out.rx).mono ?_; rintro e w4 ⟨rfl, hsc4, hx4⟩; have HRD := Lib.hid (rd_sc HTr.out.own hsc4 (Nat.lt_succ_self _) HRDr.out); have hT4 := HTr.out.go hsc4 hx4; have k1 : w4.cell? ⟨w.heap.size + 1, 1, none⟩ = some (.int .i64 ((A : Int) + 1)) := hT4.rx.c1; have k4 := hT4.rx.c4; have k7 := hT4.rx.c7; have kl := hT4.rx.lt; have HT4 := Lib.hid hT4; clear hT4 hsc4 hx4) | (go_at_call 30; refine (SortPairs_any l v ra rcap _ HRD.out (by first | omega | (show 0 ≤ 1000000; omega))).mono ?_; rintro e w8 ⟨v8, rfl, hown8, hb8⟩; obtain ⟨o8, c8, rfl⟩ := hown8.lenv; have hT8 := HT4.out.below hb8; have y2 := hT8.rx.c2; have y3 := hT8.rx.c3; have y4 := hT8.rx.c4; have yl := hT8.rx.lt; have yf := hT8.rx.fz 4; have hr8 := hT8.sc.kept HRT.out (by omega); obtain ⟨x0, x1, x2, xf0, xf1, xf2⟩ := tag_of_row hr8; have HR8 := Lib.hid hr8; have HT8 := Lib.hid hT8; have HO8 := Lib.hid hown8; clear hT8 hr8 hown8 hb8))
              refine bodyPost_ret (v := .tuple #[.agg #[.bool false, .string n, .slice o8 (sortR l).length c8], .int .i64 0, .int .i64 0]) (by simp [results, Try.results24, go_sem, x0, x1, x2, xf0, xf1, xf2, World.cell?_setCell_far, World.cell?_setCell_same', World.cell?_setCell_other]) rfl ⟨?_, ?_⟩
              · rw [HRv.out, sort_same]
                refine ⟨_, rfl, ?_⟩
                exact OwnsP.mono (ownsRow_setCell_below (ownsRow_setCell_below (ownsRow_setCell_below (ownsRow_setCell_below HO8.out (by show w.heap.size + 1 < _; omega) _) (by show w.heap.size < _; omega) _) (by show w.heap.size < _; omega) _) (by show w.heap.size < _; omega) _) (by omega)
              · have hb8 : Below w.heap.size w w8 := HB.out.trans ⟨HT8.out.sc.os, HT8.out.sc.tape, HT8.out.sc.output, HT8.out.sc.size, fun k hk => HT8.out.sc.block k (by have := HT8.out.lt; omega) (by omega)⟩
                repeat' first | exact hb8 | (refine below_drew1 ?_) | (refine below_set ?_ (by omega) _ _)
        · have hAz' : ¬ (A : Int) < s.size := by omega
          have HAz := Lib.hid hAz
          clear h32 hAz
          have HRv : Hid (R = .error (A, 3)) := Lib.hid (by rw [HRe.out, endF, if_neg]; unfold seesF; rw [dif_neg HAz.out]; simp)
          have H62 : Hid (seesF s A 62 = false) := Lib.hid (by unfold seesF; rw [dif_neg HAz.out])
          go_wp2_with (go_at_call 42; refine (want1_no 62 (d := 62) rfl hs (by omega) H62.out _ HTr.out.rx).mono ?_; rintro e w5 ⟨rfl, hsc5, hx5⟩; have hT5 := HTr.out.go hsc5 hx5; have k5 := hT5.rx.c5; have k6 := hT5.rx.c6; have k7 := hT5.rx.c7; have kl := hT5.rx.lt; have HT5 := Lib.hid hT5; have hr5 := hT5.sc.kept HRT.out (by omega); obtain ⟨x0, x1, x2, xf0, xf1, xf2⟩ := tag_of_row hr5; have HR5 := Lib.hid hr5; clear hT5 hsc5 hx5 hr5)
          go_region_held3 (fun w' => w'.cell? ⟨w.heap.size + 1, 5, none⟩ = some (.int .i64 A) ∧ w'.cell? ⟨w.heap.size + 1, 6, none⟩ = some (.int .i64 3)) (go_keep) (fail)
          all_goals
            go_wp2
            refine bodyPost_ret (v := .tuple #[.agg #[.bool false, .string ⟨#[]⟩, .slice none 0 0], .int .i64 A, .int .i64 3]) (by simp [results, Try.results24, go_sem, x0, x1, x2, xf0, xf1, xf2, World.cell?_setCell_far, World.cell?_setCell_same', World.cell?_setCell_other]) rfl ⟨by rw [HRv.out]; rfl, ?_⟩
            have hb5 : Below w.heap.size w w5 := HB.out.trans ⟨HT5.out.sc.os, HT5.out.sc.tape, HT5.out.sc.output, HT5.out.sc.size, fun k hk => HT5.out.sc.block k (by have := HT5.out.lt; omega) (by omega)⟩
            repeat' first | exact hb5 | (refine below_drew1 ?_) | (refine below_set ?_ (Nat.le_refl _) _ _)
      | true =>
        obtain ⟨hAz, hAq⟩ := sees_at h32
        obtain ⟨f, rfl⟩ : ∃ g, f = g + 1 := ⟨f - 1, by omega⟩
        obtain ⟨e1, he1⟩ : ∃ e1, e1 = spTo s s.size A := ⟨_, rfl⟩
        have hD1 : D = (match keyF s e1 l with | .error q => .error q | .ok q => keysF s f q.2 (l ++ [q.1])) := by
          rw [← HK0.out, keysF, h32, if_pos rfl, he1]
          cases keyF s (spTo s s.size A) l <;> rfl
        have HD1 := Lib.hid hD1
        have HE1 := Lib.hid he1
        have HA := Lib.hid (HTr.out.left)
        clear h32 hD1 he1 HK0
        go_wp2_with fail
        obtain ⟨wo, rfl⟩ : ∃ x, x = wr := ⟨_, rfl⟩
        clear h1 h2 h7 hl
        go_loopw [84] (fun _ wr => ∃ B g : Nat, A ≤ B ∧ B ≤ s.size ∧ s.size ≤ B + g ∧ spTo s g B = e1 ∧ RS W2 (w.heap.size + 1) s wr B false n v l 0 0 false) (fun _ wr => s.size - atOf (w.heap.size + 1) wr)
        case atStart => exact ⟨A, s.size, by omega, by omega, by omega, HE1.out.symm, HTr.out⟩
        case round =>
          obtain ⟨B, g, hAB, hBs, hg, hsp, hT⟩ := hrel
          have h1 := hT.rx.c1
          have hl := hT.rx.lt
          have hf1 := hT.rx.fz 1
          have HTi := Lib.hid hT
          clear hT
          cases hq32 : seesF s B 32 with
          | true =>
            obtain ⟨hBz, hBq⟩ := sees_at hq32
            obtain ⟨g, rfl⟩ : ∃ k, g = k + 1 := ⟨g - 1, by omega⟩
            rw [spTo, hq32, if_pos rfl] at hsp
            have HSP := Lib.hid hsp
            clear hq32 hsp
            go_wp2
            go_roundw
            case rel => exact ⟨B + 1, g, by omega, by omega, by omega, HSP.out, HTi.out.inc⟩
            case measure => rw [HTi.out.rx.atOf, HTi.out.inc.rx.atOf]; omega
          | false =>
            have hbe : e1 = B := by
              rw [← hsp]
              cases g with
              | zero => rfl
              | succ g => rw [spTo, hq32, if_neg (by simp)]
            obtain rfl := hbe
            clear hsp
            by_cases hBz : e1 < s.size
            · have hBq := sees_not hq32 hBz
              clear hq32
              obtain ⟨ov, oc, rfl⟩ := HTi.out.own.lenv
              have hD2 := HD1.out
              rw [keyF_nameK] at hD2
              cases hk : nameK s e1 l with
              | error q =>
                obtain ⟨q1, q2⟩ := q
                rw [hk] at hD2
                have HRv : Hid (R = .error (q1, q2)) := Lib.hid (by rw [HR.out, hD2]; rfl)
                have HK := Lib.hid hk
                clear hk hD2
                go_wp2_with (first | (go_at_call 43; refine (rskey_err hs hBs h8l HK.out HTi.out).mono ?_; rintro e w6 ⟨m, a', rfl, ha', hT6⟩; have HT6 := Lib.hid hT6; clear hT6) | (go_at_call 42; (with_reducible refine (want_over (x := ⟨#[61, 34]⟩) HX2.out _ HT6.out.rx).mono ?_); rintro e w7 ⟨rfl, hsc7, hx7⟩; have hT7 := HT6.out.go hsc7 hx7; have h7 := hT7.rx.c7; have hl := hT7.rx.lt; have HTr := Lib.hid hT7; clear hT7 hsc7 hx7) | (go_at_call 42; (with_reducible refine (want_over (x := ⟨#[62]⟩) HX1.out _ HTr.out.rx).mono ?_); rintro e w5 ⟨rfl, hsc5, hx5⟩; have hT5 := HTr.out.go hsc5 hx5; have k5 := hT5.rx.c5; have k6 := hT5.rx.c6; have k7 := hT5.rx.c7; have kl := hT5.rx.lt; have HT5 := Lib.hid hT5; have hr5 := hT5.sc.kept HRT.out (by omega); obtain ⟨x0, x1, x2, xf0, xf1, xf2⟩ := tag_of_row hr5; have HR5 := Lib.hid hr5; clear hT5 hsc5 hx5 hr5))
                go_region_held3 (fun w' => w'.cell? ⟨w.heap.size + 1, 5, none⟩ = some (.int .i64 q1) ∧ w'.cell? ⟨w.heap.size + 1, 6, none⟩ = some (.int .i64 q2)) (go_keep) (fail)
                all_goals
                  go_wp2
                  refine bodyPost_ret (v := .tuple #[.agg #[.bool false, .string ⟨#[]⟩, .slice none 0 0], .int .i64 q1, .int .i64 q2]) (by simp [results, Try.results24, go_sem, x0, x1, x2, xf0, xf1, xf2, World.cell?_setCell_far, World.cell?_setCell_same', World.cell?_setCell_other]) rfl ⟨by rw [HRv.out]; rfl, ?_⟩
                  have hb5 : Below w.heap.size w w5 := HB.out.trans ⟨HT5.out.sc.os, HT5.out.sc.tape, HT5.out.sc.output, HT5.out.sc.size, fun k hk => HT5.out.sc.block k (by have := HT5.out.lt; omega) (by omega)⟩
                  repeat' first | exact hb5 | (refine below_drew1 ?_) | (refine below_set ?_ (Nat.le_refl _) _ _)
              | ok b2 =>
                rw [hk] at hD2
                dsimp only at hD2
                have hb2s := (nameF_ok (nameK_ok hk).1).2.1
                have HK := Lib.hid hk
                clear hk
                cases h61 : seesF s b2 61 with
                | false =>
                  rw [h61] at hD2
                  have HRv : Hid (R = .error (b2, 3)) := Lib.hid (by rw [HR.out, hD2]; rfl)
                  have H61 := Lib.hid h61
                  clear h61 hD2
                  go_wp2_with (first | (go_at_call 43; refine (rskey_ok hs hBs h8l HK.out HTi.out).mono ?_; rintro e w6 ⟨rfl, hT6⟩; have HT6 := Lib.hid hT6; clear hT6) | (go_at_call 42; (with_reducible refine (want2_no1 hs hb2s H61.out _ HT6.out.rx).mono ?_); rintro e w7 ⟨rfl, hsc7, hx7⟩; have hT7 := HT6.out.go hsc7 hx7; have h7 := hT7.rx.c7; have hl := hT7.rx.lt; have HTr := Lib.hid hT7; clear hT7 hsc7 hx7) | (go_at_call 42; (with_reducible refine (want_over (x := ⟨#[62]⟩) HX1.out _ HTr.out.rx).mono ?_); rintro e w5 ⟨rfl, hsc5, hx5⟩; have hT5 := HTr.out.go hsc5 hx5; have k5 := hT5.rx.c5; have k6 := hT5.rx.c6; have k7 := hT5.rx.c7; have kl := hT5.rx.lt; have HT5 := Lib.hid hT5; have hr5 := hT5.sc.kept HRT.out (by omega); obtain ⟨x0, x1, x2, xf0, xf1, xf2⟩ := tag_of_row hr5; have HR5 := Lib.hid hr5; clear hT5 hsc5 hx5 hr5))
                  go_region_held3 (fun w' => w'.cell? ⟨w.heap.size + 1, 5, none⟩ = some (.int .i64 b2) ∧ w'.cell? ⟨w.heap.size + 1, 6, none⟩ = some (.int .i64 3)) (go_keep) (fail)
                  all_goals
                    go_wp2
                    refine bodyPost_ret (v := .tuple #[.agg #[.bool false, .string ⟨#[]⟩, .slice none 0 0], .int .i64 b2, .int .i64 3]) (by simp [results, Try.results24, go_sem, x0, x1, x2, xf0, xf1, xf2, World.cell?_setCell_far, World.cell?_setCell_same', World.cell?_setCell_other]) rfl ⟨by rw [HRv.out]; rfl, ?_⟩
                    have hb5 : Below w.heap.size w w5 := HB.out.trans ⟨HT5.out.sc.os, HT5.out.sc.tape, HT5.out.sc.output, HT5.out.sc.size, fun k hk => HT5.out.sc.block k (by have := HT5.out.lt; omega) (by omega)⟩
                    repeat' first | exact hb5 | (refine below_drew1 ?_) | (refine below_set ?_ (Nat.le_refl _) _ _)
                | true =>
                  rw [h61] at hD2
                  have H61 := Lib.hid h61
                  clear h61
                  cases h34 : seesF s (b2 + 1) 34 with
                  | false =>
                    rw [h34] at hD2
                    have HRv : Hid (R = .error (b2 + 1, 3)) := Lib.hid (by rw [HR.out, hD2]; rfl)
                    have H34 := Lib.hid h34
                    clear h34 hD2
                    go_wp2_with (first | (go_at_call 43; refine (rskey_ok hs hBs h8l HK.out HTi.out).mono ?_; rintro e w6 ⟨rfl, hT6⟩; have HT6 := Lib.hid hT6; clear hT6) | (go_at_call 42; (with_reducible refine (want2_no2 hs hb2s H61.out H34.out _ HT6.out.rx).mono ?_); rintro e w7 ⟨rfl, hsc7, hx7⟩; have hT7 := HT6.out.go hsc7 hx7; have h7 := hT7.rx.c7; have hl := hT7.rx.lt; have HTr := Lib.hid hT7; clear hT7 hsc7 hx7) | (go_at_call 42; (with_reducible refine (want_over (x := ⟨#[62]⟩) HX1.out _ HTr.out.rx).mono ?_); rintro e w5 ⟨rfl, hsc5, hx5⟩; have hT5 := HTr.out.go hsc5 hx5; have k5 := hT5.rx.c5; have k6 := hT5.rx.c6; have k7 := hT5.rx.c7; have kl := hT5.rx.lt; have HT5 := Lib.hid hT5; have hr5 := hT5.sc.kept HRT.out (by omega); obtain ⟨x0, x1, x2, xf0, xf1, xf2⟩ := tag_of_row hr5; have HR5 := Lib.hid hr5; clear hT5 hsc5 hx5 hr5))
                    go_region_held3 (fun w' => w'.cell? ⟨w.heap.size + 1, 5, none⟩ = some (.int .i64 ((b2 + 1 : Nat) : Int)) ∧ w'.cell? ⟨w.heap.size + 1, 6, none⟩ = some (.int .i64 3)) (go_keep) (fail)
                    all_goals
                      go_wp2
                      refine bodyPost_ret (v := .tuple #[.agg #[.bool false, .string ⟨#[]⟩, .slice none 0 0], .int .i64 ((b2 + 1 : Nat) : Int), .int .i64 3]) (by simp [results, Try.results24, go_sem, x0, x1, x2, xf0, xf1, xf2, World.cell?_setCell_far, World.cell?_setCell_same', World.cell?_setCell_other]) rfl ⟨by rw [HRv.out]; rfl, ?_⟩
                      have hb5 : Below w.heap.size w w5 := HB.out.trans ⟨HT5.out.sc.os, HT5.out.sc.tape, HT5.out.sc.output, HT5.out.sc.size, fun k hk => HT5.out.sc.block k (by have := HT5.out.lt; omega) (by omega)⟩
                      repeat' first | exact hb5 | (refine below_drew1 ?_) | (refine below_set ?_ (Nat.le_refl _) _ _)
                  | true =>
                    rw [h34] at hD2
                    have hb2s' : b2 + 2 ≤ s.size := by have := seesF_lt h34; omega
                    have H34 := Lib.hid h34
                    clear h34
                    cases hv : valueF s (b2 + 2) with
                    | error q =>
                      obtain ⟨q1, q2⟩ := q
                      rw [hv] at hD2
                      have HDv : Hid (D = .error (q1, q2)) := Lib.hid hD2
                      have HV := Lib.hid hv
                      clear hv hD2
                      go_wp2_with (first | (go_at_call 43; refine (rskey_ok hs hBs h8l HK.out HTi.out).mono ?_; rintro e w6 ⟨rfl, hT6⟩; have HT6 := Lib.hid hT6; clear hT6) | (go_at_call 42; refine (want2_yes hs hb2s H61.out H34.out _ HT6.out.rx).mono ?_; rintro e w7 ⟨rfl, hsc7, hx7⟩; have hT7 := HT6.out.go hsc7 hx7; have h7 := hT7.rx.c7; have hl := hT7.rx.lt; have HT7 := Lib.hid hT7; clear hT7 hsc7 hx7) | (go_at_call 44; refine (rsvalue_err hs hb2s' HV.out HT7.out).mono ?_; rintro e w8 ⟨m, a', rfl, ha', hT8⟩; have y4 := hT8.rx.c4; have yl := hT8.rx.lt; have HT8 := Lib.hid hT8; clear hT8) | (at_builtin; refine wpList_append_lies _ rfl _ _ 31 rfl (w.heap.size + 1 + 1) 52 i0 _ 2 32 Try.underlying31 Hhi.out hz0 hz1' hz2 rfl (by decide) (.slice ov l.length oc) l.length (pcells l) rfl (World.ownsRow.alloc HT8.out.own _) ⟨w8.heap.size, 0, none⟩ 1 1 [.string (s.extract e1 b2), .string m] rfl rfl (cell_two_new _ _ _ _) (by simp [Value.oneCell']) (by omega) (by unfold maxLen; omega) (by omega) (by have := HT8.out.rx.lt; rw [World.size_alloc]; omega) _ rfl ?_; intro g gcap w9 hown9 hgrow9 hat9 hlt9; have hx9 := HT8.out.grown hgrow9; have u4 := hx9.c4; have uf4 := hx9.fz 4; have ul := hx9.lt; have hT10 := HT8.out.append (v' := .slice (some ⟨g, 0, none⟩) (l.length + 1) gcap) (l' := l ++ [(s.extract e1 b2, m)]) hgrow9 (by unfold OwnsP; rw [pcells_append, List.length_append]; exact hown9); have HT10 := Lib.hid hT10; clear hT10 hgrow9 hown9 hat9 hx9))
                      refine ⟨⟨a', _, l ++ [(s.extract e1 b2, m)], q1, q2, true, 0, ha', HT10.out, .inr ⟨rfl, q1, rfl, HDv.out⟩⟩, ?_⟩
                      rw [HA.out, HT10.out.left]
                      simp
                    | ok q =>
                      obtain ⟨u, q3⟩ := q
                      rw [hv] at hD2
                      have HDv : Hid (keysF s f q3 (l ++ [(s.extract e1 b2, u)]) = D) := Lib.hid hD2.symm
                      have hko : e1 < q3 ∧ q3 ≤ s.size ∧ l.length ≠ 8 := by
                        have := valueF_ok hv
                        have h1 := nameK_ok HK.out
                        have := nameF_ok h1.1
                        exact ⟨by omega, by omega, h1.2⟩
                      have HV := Lib.hid hv
                      clear hv hD2
                      go_wp2_with (first | (go_at_call 43; refine (rskey_ok hs hBs h8l HK.out HTi.out).mono ?_; rintro e w6 ⟨rfl, hT6⟩; have HT6 := Lib.hid hT6; clear hT6) | (go_at_call 42; refine (want2_yes hs hb2s H61.out H34.out _ HT6.out.rx).mono ?_; rintro e w7 ⟨rfl, hsc7, hx7⟩; have hT7 := HT6.out.go hsc7 hx7; have h7 := hT7.rx.c7; have hl := hT7.rx.lt; have HT7 := Lib.hid hT7; clear hT7 hsc7 hx7) | (go_at_call 44; refine (rsvalue_ok hs hb2s' HV.out HT7.out).mono ?_; rintro e w8 ⟨rfl, hT8⟩; have y4 := hT8.rx.c4; have yl := hT8.rx.lt; have HT8 := Lib.hid hT8; clear hT8) | (at_builtin; refine wpList_append_lies _ rfl _ _ 31 rfl (w.heap.size + 1 + 1) 52 i0 _ 2 32 Try.underlying31 Hhi.out hz0 hz1' hz2 rfl (by decide) (.slice ov l.length oc) l.length (pcells l) rfl (World.ownsRow.alloc HT8.out.own _) ⟨w8.heap.size, 0, none⟩ 1 1 [.string (s.extract e1 b2), .string u] rfl rfl (cell_two_new _ _ _ _) (by simp [Value.oneCell']) (by omega) (by unfold maxLen; omega) (by omega) (by have := HT8.out.rx.lt; rw [World.size_alloc]; omega) _ rfl ?_; intro g gcap w9 hown9 hgrow9 hat9 hlt9; have hx9 := HT8.out.grown hgrow9; have u4 := hx9.c4; have uf4 := hx9.fz 4; have ul := hx9.lt; have hT10 := HT8.out.append (v' := .slice (some ⟨g, 0, none⟩) (l.length + 1) gcap) (l' := l ++ [(s.extract e1 b2, u)]) hgrow9 (by unfold OwnsP; rw [pcells_append, List.length_append]; exact hown9); have HT10 := Lib.hid hT10; clear hT10 hgrow9 hown9 hat9 hx9))
                      refine ⟨⟨q3, _, l ++ [(s.extract e1 b2, u)], 0, 0, false, f, hko.2.1, HT10.out, .inl ⟨rfl, rfl, rfl, ?_, ?_, HDv.out⟩⟩, ?_⟩
                      · rw [List.length_append]; have := hko.2.2; show l.length + 1 ≤ 8; omega
                      · have := hko.1; omega
                      · rw [HA.out, HT10.out.left]; have := hko.1; have := hko.2.1; simp; omega
            · obtain rfl : e1 = s.size := by omega
              clear hq32
              obtain ⟨ov, oc, rfl⟩ := HTi.out.own.lenv
              have HK : Hid (nameK s s.size l = .error (s.size, 3)) := Lib.hid (by unfold nameK nameF; rw [dif_neg hBz])
              have HRv : Hid (R = .error (s.size, 3)) := Lib.hid (by rw [HR.out, HD1.out, keyF_nameK, HK.out]; rfl)
              go_wp2_with (first | (go_at_call 43; refine (rskey_err hs hBs h8l HK.out HTi.out).mono ?_; rintro e w6 ⟨m, a', rfl, ha', hT6⟩; have HT6 := Lib.hid hT6; clear hT6) | (go_at_call 42; (with_reducible refine (want_over (x := ⟨#[61, 34]⟩) HX2.out _ HT6.out.rx).mono ?_); rintro e w7 ⟨rfl, hsc7, hx7⟩; have hT7 := HT6.out.go hsc7 hx7; have h7 := hT7.rx.c7; have hl := hT7.rx.lt; have HTr := Lib.hid hT7; clear hT7 hsc7 hx7) | (go_at_call 42; (with_reducible refine (want_over (x := ⟨#[62]⟩) HX1.out _ HTr.out.rx).mono ?_); rintro e w5 ⟨rfl, hsc5, hx5⟩; have hT5 := HTr.out.go hsc5 hx5; have k5 := hT5.rx.c5; have k6 := hT5.rx.c6; have k7 := hT5.rx.c7; have kl := hT5.rx.lt; have HT5 := Lib.hid hT5; have hr5 := hT5.sc.kept HRT.out (by omega); obtain ⟨x0, x1, x2, xf0, xf1, xf2⟩ := tag_of_row hr5; have HR5 := Lib.hid hr5; clear hT5 hsc5 hx5 hr5))
              go_region_held3 (fun w' => w'.cell? ⟨w.heap.size + 1, 5, none⟩ = some (.int .i64 s.size) ∧ w'.cell? ⟨w.heap.size + 1, 6, none⟩ = some (.int .i64 3)) (go_keep) (fail)
              all_goals
                go_wp2
                refine bodyPost_ret (v := .tuple #[.agg #[.bool false, .string ⟨#[]⟩, .slice none 0 0], .int .i64 s.size, .int .i64 3]) (by simp [results, Try.results24, go_sem, x0, x1, x2, xf0, xf1, xf2, World.cell?_setCell_far, World.cell?_setCell_same', World.cell?_setCell_other]) rfl ⟨by rw [HRv.out]; rfl, ?_⟩
                have hb5 : Below w.heap.size w w5 := HB.out.trans ⟨HT5.out.sc.os, HT5.out.sc.tape, HT5.out.sc.output, HT5.out.sc.size, fun k hk => HT5.out.sc.block k (by have := HT5.out.lt; omega) (by omega)⟩
                repeat' first | exact hb5 | (refine below_drew1 ?_) | (refine below_set ?_ (Nat.le_refl _) _ _)
    · have HRv : Hid (R = .error (p', q)) := Lib.hid (by rw [HR.out, hk]; rfl)
      have h7 := hT.rx.c7
      have hl := hT.rx.lt
      have HTr := Lib.hid hT
      clear hT hk
      go_wp2_with (go_at_call 42; refine (want_over (by show 1 ≤ 1000000; omega) _ HTr.out.rx).mono ?_; rintro e w5 ⟨rfl, hsc5, hx5⟩; have hT5 := HTr.out.go hsc5 hx5; have k5 := hT5.rx.c5; have k6 := hT5.rx.c6; have k7 := hT5.rx.c7; have kl := hT5.rx.lt; have HT5 := Lib.hid hT5; have hr5 := hT5.sc.kept HRT.out (by omega); obtain ⟨x0, x1, x2, xf0, xf1, xf2⟩ := tag_of_row hr5; have HR5 := Lib.hid hr5; clear hT5 hsc5 hx5 hr5)
      go_region_held3 (fun w' => w'.cell? ⟨w.heap.size + 1, 5, none⟩ = some (.int .i64 p') ∧ w'.cell? ⟨w.heap.size + 1, 6, none⟩ = some (.int .i64 q)) (go_keep) (fail)
      all_goals
        go_wp2
        refine bodyPost_ret (v := .tuple #[.agg #[.bool false, .string ⟨#[]⟩, .slice none 0 0], .int .i64 p', .int .i64 q]) (by simp [results, Try.results24, go_sem, x0, x1, x2, xf0, xf1, xf2, World.cell?_setCell_far, World.cell?_setCell_same', World.cell?_setCell_other]) rfl ⟨by rw [HRv.out]; rfl, ?_⟩
        have hb5 : Below w.heap.size w w5 := HB.out.trans ⟨HT5.out.sc.os, HT5.out.sc.tape, HT5.out.sc.output, HT5.out.sc.size, fun k hk => HT5.out.sc.block k (by have := HT5.out.lt; omega) (by omega)⟩
        repeat' first | exact hb5 | (refine below_drew1 ?_) | (refine below_set ?_ (Nat.le_refl _) _ _)
end Go.Proofs.Ytaaegelefknkeab
