/- The reference's ParseTag: roads. -/
import Derived.Test.YtaaegelefknkeabNvF
import Derived.Test.YtaaegelefknkeabNtL
import Derived.Test.YtaaegelefknkeabNtK
namespace Go.Proofs.Ytaaegelefknkeab
open Go.RowKit Go.Shelf
set_option linter.unusedSimpArgs false
set_option linter.unusedVariables false

set_option maxRecDepth 10000 in
set_option maxHeartbeats 4000000 in
theorem RParseTag_nameErr_c (s : ByteArray) (hs : s.size ≤ 1000000) (h60 : seesF s 0 60 = true) (h47 : seesF s 1 47 = true) (q1 : Nat) (q2 : Int) (hn : nameF s 2 = .error (q1, q2)) (w : World) :
    Calls Try.prog 24 #[.string s] w fun e w' => PtPost w.heap.size (.error (q1, q2)) e w' ∧ Below w.heap.size w w' := by
  obtain ⟨W1, hW1⟩ : ∃ W1, w.alloc (.cells #[.bool false, .string ⟨#[]⟩, .slice none 0 0] 36) = W1 := ⟨_, rfl⟩
  obtain ⟨W2, hW2⟩ : ∃ W2, W1.alloc (.cells #[.string s, .int .i64 0, .bool false, .string ⟨#[]⟩, .slice none 0 0, .int .i64 0, .int .i64 0, .bool false] 66) = W2 := ⟨_, rfl⟩
  have z1 : W1.heap.size = w.heap.size + 1 := by rw [← hW1, World.size_alloc]
  have hT : RS W2 (w.heap.size + 1) s W2 0 false ⟨#[]⟩ (.slice none 0 0) [] 0 0 false := by
    have := RS.start W1 s
    rw [hW2, z1] at this
    exact this
  have hb1 : Below w.heap.size w W1 := by rw [← hW1]; exact b0 w _
  have hb2 : Below W1.heap.size W1 W2 := by rw [← hW2]; exact b0 W1 _
  have HB := Lib.hid (bchain hb1 hb2)
  have HRT : Hid (W2.heap[w.heap.size]? = some (.cells #[.bool false, .string ⟨#[]⟩, .slice none 0 0] 36 (0, 0))) := Lib.hid (by
    rw [hb2.block _ (by omega), ← hW1]; exact heap_alloc_new w _)
  have HT := Lib.hid hT
  have HW : Hid ((w.alloc (.cells #[.bool false, .string ⟨#[]⟩, .slice none 0 0] 36)).alloc (.cells #[.string s, .int .i64 0, .bool false, .string ⟨#[]⟩, .slice none 0 0, .int .i64 0, .int .i64 0, .bool false] 66) = W2) := Lib.hid (by rw [hW1, hW2])
  clear hW1 hW2 z1 hT hb1 hb2
  have H60 := Lib.hid h60
  have h1s := seesF_lt h60
  clear h60
  obtain ⟨h1z, hq⟩ := sees_at h47
  have H47 := Lib.hid h47
  clear h47
  have HN := Lib.hid hn
  clear hn
  go_enter Try.func24, Try.ntmps24
  go_wp2_with (first | (go_at_call 42; rw [HW.out]; refine (want1_yes 60 (d := 60) rfl hs (Nat.zero_le _) H60.out _ HT.out.rx).mono ?_; rintro e w1 ⟨rfl, hsc1, hx1⟩; have hT1 : RS W2 (w.heap.size + 1) s w1 1 false ⟨#[]⟩ (.slice none 0 0) [] 0 0 false := HT.out.go hsc1 hx1; have h1 : w1.cell? ⟨w.heap.size + 1, 1, none⟩ = some (.int .i64 1) := hT1.rx.c1; have h2 := hT1.rx.c2; have h7 := hT1.rx.c7; have hl := hT1.rx.lt; have hf1 := hT1.rx.fz 1; have hf2 := hT1.rx.fz 2; have HT1 := Lib.hid hT1; clear hT1 hsc1 hx1) | (go_at_call 43; refine (rsname_err hs (by omega) HN.out HT1.out.inc.close).mono ?_; rintro e w2 ⟨m, a', rfl, ha', hT2⟩; have g3 := hT2.rx.c3; have g7 := hT2.rx.c7; have gl := hT2.rx.lt; have gf := hT2.rx.fz 3; have HT2 := Lib.hid hT2; clear hT2))
  clear h1 h2 h7 hl hf1 hf2 g3 g7 gl gf
  go_loopw [53] (fun _ wr => RS W2 (w.heap.size + 1) s wr a' true m (.slice none 0 0) [] q1 q2 true) (fun _ _ => 0)
  case atStart => exact HT2.out.named _
  case round =>
    have h7 := hrel.rx.c7
    have hl := hrel.rx.lt
    have HTr := Lib.hid hrel
    clear hrel
    go_wp2_with (go_at_call 42; refine (want_over (by show 1 ≤ 1000000; omega) _ HTr.out.rx).mono ?_; rintro e w5 ⟨rfl, hsc5, hx5⟩; have hT5 := HTr.out.go hsc5 hx5; have k5 := hT5.rx.c5; have k6 := hT5.rx.c6; have k7 := hT5.rx.c7; have kl := hT5.rx.lt; have HT5 := Lib.hid hT5; have hr5 := hT5.sc.kept HRT.out (by omega); obtain ⟨x0, x1, x2, xf0, xf1, xf2⟩ := tag_of_row hr5; have HR5 := Lib.hid hr5; clear hT5 hsc5 hx5 hr5)
    go_region_held3 (fun w' => w'.cell? ⟨w.heap.size + 1, 5, none⟩ = some (.int .i64 q1) ∧ w'.cell? ⟨w.heap.size + 1, 6, none⟩ = some (.int .i64 q2)) (go_keep) (fail)
    all_goals
      go_wp2
      refine bodyPost_ret (v := .tuple #[.agg #[.bool false, .string ⟨#[]⟩, .slice none 0 0], .int .i64 q1, .int .i64 q2]) (by simp [results, Try.results24, go_sem, x0, x1, x2, xf0, xf1, xf2, World.cell?_setCell_far, World.cell?_setCell_same', World.cell?_setCell_other]) rfl ⟨rfl, ?_⟩
      have hb5 : Below w.heap.size w w5 := HB.out.trans ⟨HT5.out.sc.os, HT5.out.sc.tape, HT5.out.sc.output, HT5.out.sc.size, fun k hk => HT5.out.sc.block k (by have := HT5.out.lt; omega) (by omega)⟩
      repeat' first | exact hb5 | (refine below_drew1 ?_) | (refine below_set ?_ (Nat.le_refl _) _ _)
set_option maxRecDepth 10000 in
set_option maxHeartbeats 4000000 in
theorem RParseTag_nameErr_a (s : ByteArray) (hs : s.size ≤ 1000000) (h60 : seesF s 0 60 = true) (h47 : seesF s 1 47 = false) (h1z : 1 < s.size) (q1 : Nat) (q2 : Int) (hn : nameF s 1 = .error (q1, q2)) (w : World) :
    Calls Try.prog 24 #[.string s] w fun e w' => PtPost w.heap.size (.error (q1, q2)) e w' ∧ Below w.heap.size w w' := by
  obtain ⟨W1, hW1⟩ : ∃ W1, w.alloc (.cells #[.bool false, .string ⟨#[]⟩, .slice none 0 0] 36) = W1 := ⟨_, rfl⟩
  obtain ⟨W2, hW2⟩ : ∃ W2, W1.alloc (.cells #[.string s, .int .i64 0, .bool false, .string ⟨#[]⟩, .slice none 0 0, .int .i64 0, .int .i64 0, .bool false] 66) = W2 := ⟨_, rfl⟩
  have z1 : W1.heap.size = w.heap.size + 1 := by rw [← hW1, World.size_alloc]
  have hT : RS W2 (w.heap.size + 1) s W2 0 false ⟨#[]⟩ (.slice none 0 0) [] 0 0 false := by
    have := RS.start W1 s
    rw [hW2, z1] at this
    exact this
  have hb1 : Below w.heap.size w W1 := by rw [← hW1]; exact b0 w _
  have hb2 : Below W1.heap.size W1 W2 := by rw [← hW2]; exact b0 W1 _
  have HB := Lib.hid (bchain hb1 hb2)
  have HRT : Hid (W2.heap[w.heap.size]? = some (.cells #[.bool false, .string ⟨#[]⟩, .slice none 0 0] 36 (0, 0))) := Lib.hid (by
    rw [hb2.block _ (by omega), ← hW1]; exact heap_alloc_new w _)
  have HT := Lib.hid hT
  have HW : Hid ((w.alloc (.cells #[.bool false, .string ⟨#[]⟩, .slice none 0 0] 36)).alloc (.cells #[.string s, .int .i64 0, .bool false, .string ⟨#[]⟩, .slice none 0 0, .int .i64 0, .int .i64 0, .bool false] 66) = W2) := Lib.hid (by rw [hW1, hW2])
  clear hW1 hW2 z1 hT hb1 hb2
  have H60 := Lib.hid h60
  have h1s := seesF_lt h60
  clear h60
  have hq := sees_not h47 h1z
  have H47 := Lib.hid h47
  clear h47
  have HN := Lib.hid hn
  clear hn
  go_enter Try.func24, Try.ntmps24
  go_wp2_with (first | (go_at_call 42; rw [HW.out]; refine (want1_yes 60 (d := 60) rfl hs (Nat.zero_le _) H60.out _ HT.out.rx).mono ?_; rintro e w1 ⟨rfl, hsc1, hx1⟩; have hT1 : RS W2 (w.heap.size + 1) s w1 1 false ⟨#[]⟩ (.slice none 0 0) [] 0 0 false := HT.out.go hsc1 hx1; have h1 : w1.cell? ⟨w.heap.size + 1, 1, none⟩ = some (.int .i64 1) := hT1.rx.c1; have h2 := hT1.rx.c2; have h7 := hT1.rx.c7; have hl := hT1.rx.lt; have hf1 := hT1.rx.fz 1; have hf2 := hT1.rx.fz 2; have HT1 := Lib.hid hT1; clear hT1 hsc1 hx1) | (go_at_call 43; refine (rsname_err hs (by omega) HN.out HT1.out).mono ?_; rintro e w2 ⟨m, a', rfl, ha', hT2⟩; have g3 := hT2.rx.c3; have g7 := hT2.rx.c7; have gl := hT2.rx.lt; have gf := hT2.rx.fz 3; have HT2 := Lib.hid hT2; clear hT2))
  clear h1 h2 h7 hl hf1 hf2 g3 g7 gl gf
  go_loopw [53] (fun _ wr => RS W2 (w.heap.size + 1) s wr a' false m (.slice none 0 0) [] q1 q2 true) (fun _ _ => 0)
  case atStart => exact HT2.out.named _
  case round =>
    have h7 := hrel.rx.c7
    have hl := hrel.rx.lt
    have HTr := Lib.hid hrel
    clear hrel
    go_wp2_with (go_at_call 42; refine (want_over (by show 1 ≤ 1000000; omega) _ HTr.out.rx).mono ?_; rintro e w5 ⟨rfl, hsc5, hx5⟩; have hT5 := HTr.out.go hsc5 hx5; have k5 := hT5.rx.c5; have k6 := hT5.rx.c6; have k7 := hT5.rx.c7; have kl := hT5.rx.lt; have HT5 := Lib.hid hT5; have hr5 := hT5.sc.kept HRT.out (by omega); obtain ⟨x0, x1, x2, xf0, xf1, xf2⟩ := tag_of_row hr5; have HR5 := Lib.hid hr5; clear hT5 hsc5 hx5 hr5)
    go_region_held3 (fun w' => w'.cell? ⟨w.heap.size + 1, 5, none⟩ = some (.int .i64 q1) ∧ w'.cell? ⟨w.heap.size + 1, 6, none⟩ = some (.int .i64 q2)) (go_keep) (fail)
    all_goals
      go_wp2
      refine bodyPost_ret (v := .tuple #[.agg #[.bool false, .string ⟨#[]⟩, .slice none 0 0], .int .i64 q1, .int .i64 q2]) (by simp [results, Try.results24, go_sem, x0, x1, x2, xf0, xf1, xf2, World.cell?_setCell_far, World.cell?_setCell_same', World.cell?_setCell_other]) rfl ⟨rfl, ?_⟩
      have hb5 : Below w.heap.size w w5 := HB.out.trans ⟨HT5.out.sc.os, HT5.out.sc.tape, HT5.out.sc.output, HT5.out.sc.size, fun k hk => HT5.out.sc.block k (by have := HT5.out.lt; omega) (by omega)⟩
      repeat' first | exact hb5 | (refine below_drew1 ?_) | (refine below_set ?_ (Nat.le_refl _) _ _)
set_option maxRecDepth 10000 in
set_option maxHeartbeats 4000000 in
theorem RParseTag_nameErr_b (s : ByteArray) (hs : s.size ≤ 1000000) (h60 : seesF s 0 60 = true) (h47 : seesF s 1 47 = false) (h1z : ¬ 1 < s.size) (q1 : Nat) (q2 : Int) (hn : nameF s 1 = .error (q1, q2)) (w : World) :
    Calls Try.prog 24 #[.string s] w fun e w' => PtPost w.heap.size (.error (q1, q2)) e w' ∧ Below w.heap.size w w' := by
  obtain ⟨W1, hW1⟩ : ∃ W1, w.alloc (.cells #[.bool false, .string ⟨#[]⟩, .slice none 0 0] 36) = W1 := ⟨_, rfl⟩
  obtain ⟨W2, hW2⟩ : ∃ W2, W1.alloc (.cells #[.string s, .int .i64 0, .bool false, .string ⟨#[]⟩, .slice none 0 0, .int .i64 0, .int .i64 0, .bool false] 66) = W2 := ⟨_, rfl⟩
  have z1 : W1.heap.size = w.heap.size + 1 := by rw [← hW1, World.size_alloc]
  have hT : RS W2 (w.heap.size + 1) s W2 0 false ⟨#[]⟩ (.slice none 0 0) [] 0 0 false := by
    have := RS.start W1 s
    rw [hW2, z1] at this
    exact this
  have hb1 : Below w.heap.size w W1 := by rw [← hW1]; exact b0 w _
  have hb2 : Below W1.heap.size W1 W2 := by rw [← hW2]; exact b0 W1 _
  have HB := Lib.hid (bchain hb1 hb2)
  have HRT : Hid (W2.heap[w.heap.size]? = some (.cells #[.bool false, .string ⟨#[]⟩, .slice none 0 0] 36 (0, 0))) := Lib.hid (by
    rw [hb2.block _ (by omega), ← hW1]; exact heap_alloc_new w _)
  have HT := Lib.hid hT
  have HW : Hid ((w.alloc (.cells #[.bool false, .string ⟨#[]⟩, .slice none 0 0] 36)).alloc (.cells #[.string s, .int .i64 0, .bool false, .string ⟨#[]⟩, .slice none 0 0, .int .i64 0, .int .i64 0, .bool false] 66) = W2) := Lib.hid (by rw [hW1, hW2])
  clear hW1 hW2 z1 hT hb1 hb2
  have H60 := Lib.hid h60
  have h1s := seesF_lt h60
  clear h60
  have HN := Lib.hid hn
  clear hn
  go_enter Try.func24, Try.ntmps24
  go_wp2_with (first | (go_at_call 42; rw [HW.out]; refine (want1_yes 60 (d := 60) rfl hs (Nat.zero_le _) H60.out _ HT.out.rx).mono ?_; rintro e w1 ⟨rfl, hsc1, hx1⟩; have hT1 : RS W2 (w.heap.size + 1) s w1 1 false ⟨#[]⟩ (.slice none 0 0) [] 0 0 false := HT.out.go hsc1 hx1; have h1 : w1.cell? ⟨w.heap.size + 1, 1, none⟩ = some (.int .i64 1) := hT1.rx.c1; have h2 := hT1.rx.c2; have h7 := hT1.rx.c7; have hl := hT1.rx.lt; have hf1 := hT1.rx.fz 1; have hf2 := hT1.rx.fz 2; have HT1 := Lib.hid hT1; clear hT1 hsc1 hx1) | (go_at_call 43; refine (rsname_err hs (by omega) HN.out HT1.out).mono ?_; rintro e w2 ⟨m, a', rfl, ha', hT2⟩; have g3 := hT2.rx.c3; have g7 := hT2.rx.c7; have gl := hT2.rx.lt; have gf := hT2.rx.fz 3; have HT2 := Lib.hid hT2; clear hT2))
  clear h1 h2 h7 hl hf1 hf2 g3 g7 gl gf
  go_loopw [53] (fun _ wr => RS W2 (w.heap.size + 1) s wr a' false m (.slice none 0 0) [] q1 q2 true) (fun _ _ => 0)
  case atStart => exact HT2.out.named _
  case round =>
    have h7 := hrel.rx.c7
    have hl := hrel.rx.lt
    have HTr := Lib.hid hrel
    clear hrel
    go_wp2_with (go_at_call 42; refine (want_over (by show 1 ≤ 1000000; omega) _ HTr.out.rx).mono ?_; rintro e w5 ⟨rfl, hsc5, hx5⟩; have hT5 := HTr.out.go hsc5 hx5; have k5 := hT5.rx.c5; have k6 := hT5.rx.c6; have k7 := hT5.rx.c7; have kl := hT5.rx.lt; have HT5 := Lib.hid hT5; have hr5 := hT5.sc.kept HRT.out (by omega); obtain ⟨x0, x1, x2, xf0, xf1, xf2⟩ := tag_of_row hr5; have HR5 := Lib.hid hr5; clear hT5 hsc5 hx5 hr5)
    go_region_held3 (fun w' => w'.cell? ⟨w.heap.size + 1, 5, none⟩ = some (.int .i64 q1) ∧ w'.cell? ⟨w.heap.size + 1, 6, none⟩ = some (.int .i64 q2)) (go_keep) (fail)
    all_goals
      go_wp2
      refine bodyPost_ret (v := .tuple #[.agg #[.bool false, .string ⟨#[]⟩, .slice none 0 0], .int .i64 q1, .int .i64 q2]) (by simp [results, Try.results24, go_sem, x0, x1, x2, xf0, xf1, xf2, World.cell?_setCell_far, World.cell?_setCell_same', World.cell?_setCell_other]) rfl ⟨rfl, ?_⟩
      have hb5 : Below w.heap.size w w5 := HB.out.trans ⟨HT5.out.sc.os, HT5.out.sc.tape, HT5.out.sc.output, HT5.out.sc.size, fun k hk => HT5.out.sc.block k (by have := HT5.out.lt; omega) (by omega)⟩
      repeat' first | exact hb5 | (refine below_drew1 ?_) | (refine below_set ?_ (Nat.le_refl _) _ _)

set_option maxRecDepth 10000 in
set_option maxHeartbeats 4000000 in
theorem RParseTag_close_no (s : ByteArray) (hs : s.size ≤ 1000000) (h60 : seesF s 0 60 = true) (h47 : seesF s 1 47 = true) (b : Nat) (hn : nameF s 2 = .ok b) (h62 : seesF s b 62 = false) (w : World) :
    Calls Try.prog 24 #[.string s] w fun e w' => PtPost w.heap.size (.error (b, 3)) e w' ∧ Below w.heap.size w w' := by
  obtain ⟨W1, hW1⟩ : ∃ W1, w.alloc (.cells #[.bool false, .string ⟨#[]⟩, .slice none 0 0] 36) = W1 := ⟨_, rfl⟩
  obtain ⟨W2, hW2⟩ : ∃ W2, W1.alloc (.cells #[.string s, .int .i64 0, .bool false, .string ⟨#[]⟩, .slice none 0 0, .int .i64 0, .int .i64 0, .bool false] 66) = W2 := ⟨_, rfl⟩
  have z1 : W1.heap.size = w.heap.size + 1 := by rw [← hW1, World.size_alloc]
  have hT : RS W2 (w.heap.size + 1) s W2 0 false ⟨#[]⟩ (.slice none 0 0) [] 0 0 false := by
    have := RS.start W1 s
    rw [hW2, z1] at this
    exact this
  have hb1 : Below w.heap.size w W1 := by rw [← hW1]; exact b0 w _
  have hb2 : Below W1.heap.size W1 W2 := by rw [← hW2]; exact b0 W1 _
  have HB := Lib.hid (bchain hb1 hb2)
  have HRT : Hid (W2.heap[w.heap.size]? = some (.cells #[.bool false, .string ⟨#[]⟩, .slice none 0 0] 36 (0, 0))) := Lib.hid (by
    rw [hb2.block _ (by omega), ← hW1]; exact heap_alloc_new w _)
  have HT := Lib.hid hT
  have HW : Hid ((w.alloc (.cells #[.bool false, .string ⟨#[]⟩, .slice none 0 0] 36)).alloc (.cells #[.string s, .int .i64 0, .bool false, .string ⟨#[]⟩, .slice none 0 0, .int .i64 0, .int .i64 0, .bool false] 66) = W2) := Lib.hid (by rw [hW1, hW2])
  clear hW1 hW2 z1 hT hb1 hb2
  have H60 := Lib.hid h60
  have h1s := seesF_lt h60
  clear h60
  obtain ⟨h1z, hq⟩ := sees_at h47
  have H47 := Lib.hid h47
  clear h47
  have hbn := nameF_ok hn
  have HN := Lib.hid hn
  have H62 := Lib.hid h62
  clear hn h62
  go_enter Try.func24, Try.ntmps24
  go_wp2_with (first | (go_at_call 42; rw [HW.out]; refine (want1_yes 60 (d := 60) rfl hs (Nat.zero_le _) H60.out _ HT.out.rx).mono ?_; rintro e w1 ⟨rfl, hsc1, hx1⟩; have hT1 : RS W2 (w.heap.size + 1) s w1 1 false ⟨#[]⟩ (.slice none 0 0) [] 0 0 false := HT.out.go hsc1 hx1; have h1 : w1.cell? ⟨w.heap.size + 1, 1, none⟩ = some (.int .i64 1) := hT1.rx.c1; have h2 := hT1.rx.c2; have h7 := hT1.rx.c7; have hl := hT1.rx.lt; have hf1 := hT1.rx.fz 1; have hf2 := hT1.rx.fz 2; have HT1 := Lib.hid hT1; clear hT1 hsc1 hx1) | (go_at_call 43; refine (rsname_ok hs (by omega) HN.out HT1.out.inc.close).mono ?_; rintro e w2 ⟨rfl, hT2⟩; have g3 := hT2.rx.c3; have g7 := hT2.rx.c7; have gl := hT2.rx.lt; have gf := hT2.rx.fz 3; have HT2 := Lib.hid hT2; clear hT2))
  clear h1 h2 h7 hl hf1 hf2 g3 g7 gl gf
  go_loopw [53] (fun _ wr => RS W2 (w.heap.size + 1) s wr b true (s.extract 2 b) (.slice none 0 0) [] 0 0 false) (fun _ _ => 0)
  case atStart => exact HT2.out.named _
  case round =>
    have h2 := hrel.rx.c2
    have h7 := hrel.rx.c7
    have hl := hrel.rx.lt
    have HTr := Lib.hid hrel
    clear hrel
    go_wp2_with (go_at_call 42; refine (want1_no 62 (d := 62) rfl hs (by omega) H62.out _ HTr.out.rx).mono ?_; rintro e w5 ⟨rfl, hsc5, hx5⟩; have hT5 := HTr.out.go hsc5 hx5; have k5 := hT5.rx.c5; have k6 := hT5.rx.c6; have k7 := hT5.rx.c7; have kl := hT5.rx.lt; have HT5 := Lib.hid hT5; have hr5 := hT5.sc.kept HRT.out (by omega); obtain ⟨x0, x1, x2, xf0, xf1, xf2⟩ := tag_of_row hr5; have HR5 := Lib.hid hr5; clear hT5 hsc5 hx5 hr5)
    go_region_held3 (fun w' => w'.cell? ⟨w.heap.size + 1, 5, none⟩ = some (.int .i64 b) ∧ w'.cell? ⟨w.heap.size + 1, 6, none⟩ = some (.int .i64 3)) (go_keep) (fail)
    all_goals
      go_wp2
      refine bodyPost_ret (v := .tuple #[.agg #[.bool false, .string ⟨#[]⟩, .slice none 0 0], .int .i64 b, .int .i64 3]) (by simp [results, Try.results24, go_sem, x0, x1, x2, xf0, xf1, xf2, World.cell?_setCell_far, World.cell?_setCell_same', World.cell?_setCell_other]) rfl ⟨rfl, ?_⟩
      have hb5 : Below w.heap.size w w5 := HB.out.trans ⟨HT5.out.sc.os, HT5.out.sc.tape, HT5.out.sc.output, HT5.out.sc.size, fun k hk => HT5.out.sc.block k (by have := HT5.out.lt; omega) (by omega)⟩
      repeat' first | exact hb5 | (refine below_drew1 ?_) | (refine below_set ?_ (Nat.le_refl _) _ _)
set_option maxRecDepth 10000 in
set_option maxHeartbeats 4000000 in
theorem RParseTag_close_long (s : ByteArray) (hs : s.size ≤ 1000000) (h60 : seesF s 0 60 = true) (h47 : seesF s 1 47 = true) (b : Nat) (hn : nameF s 2 = .ok b) (h62 : seesF s b 62 = true) (hend : b + 1 < s.size) (w : World) :
    Calls Try.prog 24 #[.string s] w fun e w' => PtPost w.heap.size (.error (b + 1, 3)) e w' ∧ Below w.heap.size w w' := by
  obtain ⟨W1, hW1⟩ : ∃ W1, w.alloc (.cells #[.bool false, .string ⟨#[]⟩, .slice none 0 0] 36) = W1 := ⟨_, rfl⟩
  obtain ⟨W2, hW2⟩ : ∃ W2, W1.alloc (.cells #[.string s, .int .i64 0, .bool false, .string ⟨#[]⟩, .slice none 0 0, .int .i64 0, .int .i64 0, .bool false] 66) = W2 := ⟨_, rfl⟩
  have z1 : W1.heap.size = w.heap.size + 1 := by rw [← hW1, World.size_alloc]
  have hT : RS W2 (w.heap.size + 1) s W2 0 false ⟨#[]⟩ (.slice none 0 0) [] 0 0 false := by
    have := RS.start W1 s
    rw [hW2, z1] at this
    exact this
  have hb1 : Below w.heap.size w W1 := by rw [← hW1]; exact b0 w _
  have hb2 : Below W1.heap.size W1 W2 := by rw [← hW2]; exact b0 W1 _
  have HB := Lib.hid (bchain hb1 hb2)
  have HRT : Hid (W2.heap[w.heap.size]? = some (.cells #[.bool false, .string ⟨#[]⟩, .slice none 0 0] 36 (0, 0))) := Lib.hid (by
    rw [hb2.block _ (by omega), ← hW1]; exact heap_alloc_new w _)
  have HT := Lib.hid hT
  have HW : Hid ((w.alloc (.cells #[.bool false, .string ⟨#[]⟩, .slice none 0 0] 36)).alloc (.cells #[.string s, .int .i64 0, .bool false, .string ⟨#[]⟩, .slice none 0 0, .int .i64 0, .int .i64 0, .bool false] 66) = W2) := Lib.hid (by rw [hW1, hW2])
  clear hW1 hW2 z1 hT hb1 hb2
  have H60 := Lib.hid h60
  have h1s := seesF_lt h60
  clear h60
  obtain ⟨h1z, hq⟩ := sees_at h47
  have H47 := Lib.hid h47
  clear h47
  have hbn := nameF_ok hn
  have HN := Lib.hid hn
  have H62 := Lib.hid h62
  clear hn h62
  have hend' : (b : Int) + 1 < s.size := by omega
  go_enter Try.func24, Try.ntmps24
  go_wp2_with (first | (go_at_call 42; rw [HW.out]; refine (want1_yes 60 (d := 60) rfl hs (Nat.zero_le _) H60.out _ HT.out.rx).mono ?_; rintro e w1 ⟨rfl, hsc1, hx1⟩; have hT1 : RS W2 (w.heap.size + 1) s w1 1 false ⟨#[]⟩ (.slice none 0 0) [] 0 0 false := HT.out.go hsc1 hx1; have h1 : w1.cell? ⟨w.heap.size + 1, 1, none⟩ = some (.int .i64 1) := hT1.rx.c1; have h2 := hT1.rx.c2; have h7 := hT1.rx.c7; have hl := hT1.rx.lt; have hf1 := hT1.rx.fz 1; have hf2 := hT1.rx.fz 2; have HT1 := Lib.hid hT1; clear hT1 hsc1 hx1) | (go_at_call 43; refine (rsname_ok hs (by omega) HN.out HT1.out.inc.close).mono ?_; rintro e w2 ⟨rfl, hT2⟩; have g3 := hT2.rx.c3; have g7 := hT2.rx.c7; have gl := hT2.rx.lt; have gf := hT2.rx.fz 3; have HT2 := Lib.hid hT2; clear hT2))
  clear h1 h2 h7 hl hf1 hf2 g3 g7 gl gf
  go_loopw [53] (fun _ wr => RS W2 (w.heap.size + 1) s wr b true (s.extract 2 b) (.slice none 0 0) [] 0 0 false) (fun _ _ => 0)
  case atStart => exact HT2.out.named _
  case round =>
    have h2 := hrel.rx.c2
    have h7 := hrel.rx.c7
    have hl := hrel.rx.lt
    have HTr := Lib.hid hrel
    clear hrel
    go_wp2_with (first | (go_at_call 42; refine (want1_yes 62 (d := 62) rfl hs (by omega) H62.out _ HTr.out.rx).mono ?_; rintro e w4 ⟨rfl, hsc4, hx4⟩; have hT4 := HTr.out.go hsc4 hx4; have k1 : w4.cell? ⟨w.heap.size + 1, 1, none⟩ = some (.int .i64 ((b : Int) + 1)) := hT4.rx.c1; have k7 := hT4.rx.c7; have kl := hT4.rx.lt; have HT4 := Lib.hid hT4; clear hT4 hsc4 hx4) | (go_at_call 45; refine (fail_first ((b : Int) + 1) 3 _ HT4.out.rx).mono ?_; rintro e w5 ⟨rfl, hsc5, hx5⟩; clear k1 k7 kl; have hT5 := HT4.out.go hsc5 hx5; have k5 := hT5.rx.c5; have k6 := hT5.rx.c6; have k7 := hT5.rx.c7; have kl := hT5.rx.lt; have HT5 := Lib.hid hT5; have hr5 := hT5.sc.kept HRT.out (by omega); obtain ⟨x0, x1, x2, xf0, xf1, xf2⟩ := tag_of_row hr5; have HR5 := Lib.hid hr5; clear hT5 hsc5 hx5 hr5))
    go_region_held3 (fun w' => w'.cell? ⟨w.heap.size + 1, 5, none⟩ = some (.int .i64 ((b : Int) + 1)) ∧ w'.cell? ⟨w.heap.size + 1, 6, none⟩ = some (.int .i64 3)) (go_keep) (fail)
    all_goals
      go_wp2
      refine bodyPost_ret (v := .tuple #[.agg #[.bool false, .string ⟨#[]⟩, .slice none 0 0], .int .i64 ((b : Int) + 1), .int .i64 3]) (by simp [results, Try.results24, go_sem, x0, x1, x2, xf0, xf1, xf2, World.cell?_setCell_far, World.cell?_setCell_same', World.cell?_setCell_other]) rfl ⟨(show Ending.returned (.tuple #[.agg #[.bool false, .string ⟨#[]⟩, .slice none 0 0], .int .i64 ((b : Int) + 1), .int .i64 3]) = Ending.returned (.tuple #[.agg #[.bool false, .string ⟨#[]⟩, .slice none 0 0], .int .i64 ((b + 1 : Nat) : Int), .int .i64 3]) from by rw [Int.natCast_add]; rfl), ?_⟩
      have hb5 : Below w.heap.size w w5 := HB.out.trans ⟨HT5.out.sc.os, HT5.out.sc.tape, HT5.out.sc.output, HT5.out.sc.size, fun k hk => HT5.out.sc.block k (by have := HT5.out.lt; omega) (by omega)⟩
      repeat' first | exact hb5 | (refine below_drew1 ?_) | (refine below_set ?_ (Nat.le_refl _) _ _)

set_option maxRecDepth 10000 in
set_option maxHeartbeats 4000000 in
theorem RParseTag_close_good (s : ByteArray) (hs : s.size ≤ 1000000) (h60 : seesF s 0 60 = true) (h47 : seesF s 1 47 = true) (b : Nat) (hn : nameF s 2 = .ok b) (h62 : seesF s b 62 = true) (hend : ¬ b + 1 < s.size) (w : World) :
    Calls Try.prog 24 #[.string s] w fun e w' => PtPost w.heap.size (.ok (true, s.extract 2 b, sortF [])) e w' ∧ Below w.heap.size w w' := by
  obtain ⟨W1, hW1⟩ : ∃ W1, w.alloc (.cells #[.bool false, .string ⟨#[]⟩, .slice none 0 0] 36) = W1 := ⟨_, rfl⟩
  obtain ⟨W2, hW2⟩ : ∃ W2, W1.alloc (.cells #[.string s, .int .i64 0, .bool false, .string ⟨#[]⟩, .slice none 0 0, .int .i64 0, .int .i64 0, .bool false] 66) = W2 := ⟨_, rfl⟩
  have z1 : W1.heap.size = w.heap.size + 1 := by rw [← hW1, World.size_alloc]
  have hT : RS W2 (w.heap.size + 1) s W2 0 false ⟨#[]⟩ (.slice none 0 0) [] 0 0 false := by
    have := RS.start W1 s
    rw [hW2, z1] at this
    exact this
  have hb1 : Below w.heap.size w W1 := by rw [← hW1]; exact b0 w _
  have hb2 : Below W1.heap.size W1 W2 := by rw [← hW2]; exact b0 W1 _
  have HB := Lib.hid (bchain hb1 hb2)
  have HRT : Hid (W2.heap[w.heap.size]? = some (.cells #[.bool false, .string ⟨#[]⟩, .slice none 0 0] 36 (0, 0))) := Lib.hid (by
    rw [hb2.block _ (by omega), ← hW1]; exact heap_alloc_new w _)
  have HT := Lib.hid hT
  have HW : Hid ((w.alloc (.cells #[.bool false, .string ⟨#[]⟩, .slice none 0 0] 36)).alloc (.cells #[.string s, .int .i64 0, .bool false, .string ⟨#[]⟩, .slice none 0 0, .int .i64 0, .int .i64 0, .bool false] 66) = W2) := Lib.hid (by rw [hW1, hW2])
  clear hW1 hW2 z1 hT hb1 hb2
  have H60 := Lib.hid h60
  have h1s := seesF_lt h60
  clear h60
  obtain ⟨h1z, hq⟩ := sees_at h47
  have H47 := Lib.hid h47
  clear h47
  have hbn := nameF_ok hn
  have HN := Lib.hid hn
  have H62 := Lib.hid h62
  clear hn h62
  have hend' : ¬ (b : Int) + 1 < s.size := by omega
  go_enter Try.func24, Try.ntmps24
  go_wp2_with (first | (go_at_call 42; rw [HW.out]; refine (want1_yes 60 (d := 60) rfl hs (Nat.zero_le _) H60.out _ HT.out.rx).mono ?_; rintro e w1 ⟨rfl, hsc1, hx1⟩; have hT1 : RS W2 (w.heap.size + 1) s w1 1 false ⟨#[]⟩ (.slice none 0 0) [] 0 0 false := HT.out.go hsc1 hx1; have h1 : w1.cell? ⟨w.heap.size + 1, 1, none⟩ = some (.int .i64 1) := hT1.rx.c1; have h2 := hT1.rx.c2; have h7 := hT1.rx.c7; have hl := hT1.rx.lt; have hf1 := hT1.rx.fz 1; have hf2 := hT1.rx.fz 2; have HT1 := Lib.hid hT1; clear hT1 hsc1 hx1) | (go_at_call 43; refine (rsname_ok hs (by omega) HN.out HT1.out.inc.close).mono ?_; rintro e w2 ⟨rfl, hT2⟩; have g3 := hT2.rx.c3; have g7 := hT2.rx.c7; have gl := hT2.rx.lt; have gf := hT2.rx.fz 3; have HT2 := Lib.hid hT2; clear hT2))
  clear h1 h2 h7 hl hf1 hf2 g3 g7 gl gf
  go_loopw [53] (fun _ wr => RS W2 (w.heap.size + 1) s wr b true (s.extract 2 b) (.slice none 0 0) [] 0 0 false) (fun _ _ => 0)
  case atStart => exact HT2.out.named _
  case round =>
    have h2 := hrel.rx.c2
    have h7 := hrel.rx.c7
    have hl := hrel.rx.lt
    have HTr := Lib.hid hrel
    clear hrel
    obtain ⟨ra, rcap, hrd⟩ := HTr.out.own.rd
    have HRDr := Lib.hid hrd
    clear hrd
    go_wp2_with (first | (go_at_call 42; refine (want1_yes 62 (d := 62) rfl hs (by omega) H62.out _ HTr.out.rx).mono ?_; rintro e w4 ⟨rfl, hsc4, hx4⟩; have HRD := Lib.hid (rd_sc HTr.out.own hsc4 (Nat.lt_succ_self _) HRDr.out); have hT4 := HTr.out.go hsc4 hx4; have k1 : w4.cell? ⟨w.heap.size + 1, 1, none⟩ = some (.int .i64 ((b : Int) + 1)) := hT4.rx.c1; have k4 := hT4.rx.c4; have k7 := hT4.rx.c7; have kl := hT4.rx.lt; have HT4 := Lib.hid hT4; clear hT4 hsc4 hx4) | (go_at_call 30; refine (SortPairs_any [] (.slice none 0 0) ra rcap _ HRD.out (by first | omega | (show 0 ≤ 1000000; omega))).mono ?_; rintro e w8 ⟨v8, rfl, hown8, hb8⟩; obtain ⟨o8, c8, rfl⟩ := hown8.lenv; have hT8 := HT4.out.below hb8; have y2 := hT8.rx.c2; have y3 := hT8.rx.c3; have y4 := hT8.rx.c4; have yl := hT8.rx.lt; have yf := hT8.rx.fz 4; have hr8 := hT8.sc.kept HRT.out (by omega); obtain ⟨x0, x1, x2, xf0, xf1, xf2⟩ := tag_of_row hr8; have HR8 := Lib.hid hr8; have HT8 := Lib.hid hT8; have HO8 := Lib.hid hown8; clear hT8 hr8 hown8 hb8))
    refine bodyPost_ret (v := .tuple #[.agg #[.bool true, .string (s.extract 2 b), .slice o8 (sortR []).length c8], .int .i64 0, .int .i64 0]) (by simp [results, Try.results24, go_sem, x0, x1, x2, xf0, xf1, xf2, World.cell?_setCell_far, World.cell?_setCell_same', World.cell?_setCell_other]) rfl ⟨?_, ?_⟩
    · rw [sort_same]
      refine ⟨_, rfl, ?_⟩
      exact OwnsP.mono (ownsRow_setCell_below (ownsRow_setCell_below (ownsRow_setCell_below (ownsRow_setCell_below HO8.out (by show w.heap.size + 1 < _; omega) _) (by show w.heap.size < _; omega) _) (by show w.heap.size < _; omega) _) (by show w.heap.size < _; omega) _) (by omega)
    · have hb8 : Below w.heap.size w w8 := HB.out.trans ⟨HT8.out.sc.os, HT8.out.sc.tape, HT8.out.sc.output, HT8.out.sc.size, fun k hk => HT8.out.sc.block k (by have := HT8.out.lt; omega) (by omega)⟩
      repeat' first | exact hb8 | (refine below_drew1 ?_) | (refine below_set ?_ (by omega) _ _)
end Go.Proofs.Ytaaegelefknkeab
