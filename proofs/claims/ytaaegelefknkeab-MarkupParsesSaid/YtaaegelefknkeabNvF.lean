/- The reference's ParseTag. -/
import Derived.Test.YtaaegelefknkeabNvE
namespace Go.Proofs.Ytaaegelefknkeab
open Go.RowKit Go.Shelf
set_option linter.unusedSimpArgs false
set_option linter.unusedVariables false

set_option maxRecDepth 10000 in
set_option maxHeartbeats 4000000 in
theorem RParseTag_no (s : ByteArray) (hs : s.size ≤ 1000000) (h60 : seesF s 0 60 = false) (w : World) :
    Calls Try.prog 24 #[.string s] w fun e w' => PtPost w.heap.size (.error (0, 3)) e w' ∧ Below w.heap.size w w' := by
  obtain ⟨W1, hW1⟩ : ∃ W1, w.alloc (.cells #[.bool false, .string ⟨#[]⟩, .slice none 0 0] 36) = W1 := ⟨_, rfl⟩
  obtain ⟨W2, hW2⟩ : ∃ W2, W1.alloc (.cells #[.string s, .int .i64 0, .bool false, .string ⟨#[]⟩, .slice none 0 0, .int .i64 0, .int .i64 0, .bool false] 66) = W2 := ⟨_, rfl⟩
  have z1 : W1.heap.size = w.heap.size + 1 := by rw [← hW1, World.size_alloc]
  have hT : RS W2 (w.heap.size + 1) s W2 0 false ⟨#[]⟩ (.slice none 0 0) [] 0 0 false := by
    have := RS.start W1 s
    rw [hW2, z1] at this
    exact this
  have hb1 : Below w.heap.size w W1 := by rw [← hW1]; exact b0 w _
  have hb2 : Below W1.heap.size W1 W2 := by rw [← hW2]; exact b0 W1 _
  have HB := Lib.hid (bchain hb1 hb2)
  have HRT : Hid (W2.heap[w.heap.size]? = some (.cells #[.bool false, .string ⟨#[]⟩, .slice none 0 0] 36 (0, 0))) := Lib.hid (by
    rw [hb2.block _ (by omega), ← hW1]; exact heap_alloc_new w _)
  have HT := Lib.hid hT
  have HW : Hid ((w.alloc (.cells #[.bool false, .string ⟨#[]⟩, .slice none 0 0] 36)).alloc (.cells #[.string s, .int .i64 0, .bool false, .string ⟨#[]⟩, .slice none 0 0, .int .i64 0, .int .i64 0, .bool false] 66) = W2) := Lib.hid (by rw [hW1, hW2])
  clear hW1 hW2 z1 hT hb1 hb2
  have H60 := Lib.hid h60
  clear h60
  go_enter Try.func24, Try.ntmps24
  go_wp2_with (first | (go_at_call 42; rw [HW.out]; refine (want1_no 60 (d := 60) rfl hs (Nat.zero_le _) H60.out _ HT.out.rx).mono ?_; rintro e w1 ⟨rfl, hsc1, hx1⟩; have hT1 := HT.out.go hsc1 hx1; have h7 := hT1.rx.c7; have hl := hT1.rx.lt; have HT1 := Lib.hid hT1; clear hT1 hsc1 hx1) | (go_at_call 43; refine (name_overfalse _ HT1.out.rx).mono ?_; rintro e w2 ⟨hsc2, rfl, hx2⟩; have hT2 := HT1.out.go hsc2 hx2; have g3 := hT2.rx.c3; have g7 := hT2.rx.c7; have gl := hT2.rx.lt; have gf := hT2.rx.fz 3; have HT2 := Lib.hid hT2; clear hT2 hsc2 hx2))
  go_loopw [53] (fun _ wr => RS W2 (w.heap.size + 1) s wr 0 false ⟨#[]⟩ (.slice none 0 0) [] 0 3 true) (fun _ _ => 0)
  case atStart => exact HT2.out.named _
  case round =>
    have h7 := hrel.rx.c7
    have hl := hrel.rx.lt
    have HTr := Lib.hid hrel
    clear hrel g3 g7 gl gf
    go_wp2_with (go_at_call 42; refine (want_over (by show 1 ≤ 1000000; omega) _ HTr.out.rx).mono ?_; rintro e w5 ⟨rfl, hsc5, hx5⟩; have hT5 := HTr.out.go hsc5 hx5; have k5 := hT5.rx.c5; have k6 := hT5.rx.c6; have k7 := hT5.rx.c7; have kl := hT5.rx.lt; have HT5 := Lib.hid hT5; have hr5 := hT5.sc.kept HRT.out (by omega); obtain ⟨x0, x1, x2, xf0, xf1, xf2⟩ := tag_of_row hr5; have HR5 := Lib.hid hr5; clear hT5 hsc5 hx5 hr5)
    go_region_held3 (fun w' => w'.cell? ⟨w.heap.size + 1, 5, none⟩ = some (.int .i64 0) ∧ w'.cell? ⟨w.heap.size + 1, 6, none⟩ = some (.int .i64 3)) (go_keep) (fail)
    all_goals
      go_wp2
      refine bodyPost_ret (v := .tuple #[.agg #[.bool false, .string ⟨#[]⟩, .slice none 0 0], .int .i64 0, .int .i64 3]) (by simp [results, Try.results24, go_sem, x0, x1, x2, xf0, xf1, xf2, World.cell?_setCell_far, World.cell?_setCell_same', World.cell?_setCell_other]) rfl ⟨rfl, ?_⟩
      have hb5 : Below w.heap.size w w5 := HB.out.trans ⟨HT5.out.sc.os, HT5.out.sc.tape, HT5.out.sc.output, HT5.out.sc.size, fun k hk => HT5.out.sc.block k (by have := HT5.out.lt; omega) (by omega)⟩
      repeat' first | exact hb5 | (refine below_drew1 ?_) | (refine below_set ?_ (Nat.le_refl _) _ _)

section
variable {w : World} {X : Nat} {s : ByteArray} {W : World} {a b : Nat} {c : Bool} {n : ByteArray} {v : Value} {l : List Pr}
theorem rsname_err {q1 : Nat} {q2 : Int} (hs : s.size ≤ 1000000) (ha : a ≤ s.size) (hn : nameF s a = .error (q1, q2)) (h : RS w X s W a c n v l 0 0 false) :
    Calls Try.prog 43 #[.pointer (some ⟨X, 0, none⟩), .bool false] W fun e w' => ∃ m a', e = .returned (.string m) ∧ a' ≤ s.size ∧ RS w X s w' a' c n v l q1 q2 true := by
  refine (rname_false hs ha W h.rx).mono ?_
  rintro e w' ⟨h1, h2⟩
  rw [hn] at h2
  obtain ⟨m, a', h3, h4, h5⟩ := h2
  exact ⟨m, a', h3, h4, h.go h1 h5⟩
theorem rsname_ok (hs : s.size ≤ 1000000) (ha : a ≤ s.size) (hn : nameF s a = .ok b) (h : RS w X s W a c n v l 0 0 false) :
    Calls Try.prog 43 #[.pointer (some ⟨X, 0, none⟩), .bool false] W fun e w' => e = .returned (.string (s.extract a b)) ∧ RS w X s w' b c n v l 0 0 false := by
  refine (rname_false hs ha W h.rx).mono ?_
  rintro e w' ⟨h1, h2⟩
  rw [hn] at h2
  exact ⟨h2.2.1, h.go h1 h2.2.2⟩
theorem rskey_err {q1 : Nat} {q2 : Int} (hs : s.size ≤ 1000000) (ha : a ≤ s.size) (h8 : l.length ≤ 8) (hn : nameK s a l = .error (q1, q2)) (h : RS w X s W a c n v l 0 0 false) :
    Calls Try.prog 43 #[.pointer (some ⟨X, 0, none⟩), .bool true] W fun e w' => ∃ m a', e = .returned (.string m) ∧ a' ≤ s.size ∧ RS w X s w' a' c n v l q1 q2 true := by
  refine (rname_true hs ha W h.rx h.own h8).mono ?_
  rintro e w' ⟨h1, h2⟩
  rw [hn] at h2
  obtain ⟨m, a', h3, h4, h5⟩ := h2
  exact ⟨m, a', h3, h4, h.go h1 h5⟩
theorem rskey_ok (hs : s.size ≤ 1000000) (ha : a ≤ s.size) (h8 : l.length ≤ 8) (hn : nameK s a l = .ok b) (h : RS w X s W a c n v l 0 0 false) :
    Calls Try.prog 43 #[.pointer (some ⟨X, 0, none⟩), .bool true] W fun e w' => e = .returned (.string (s.extract a b)) ∧ RS w X s w' b c n v l 0 0 false := by
  refine (rname_true hs ha W h.rx h.own h8).mono ?_
  rintro e w' ⟨h1, h2⟩
  rw [hn] at h2
  exact ⟨h2.2.1, h.go h1 h2.2.2⟩
theorem rsvalue_err {q1 : Nat} {q2 : Int} (hs : s.size ≤ 1000000) (ha : a ≤ s.size) (hn : valueF s a = .error (q1, q2)) (h : RS w X s W a c n v l 0 0 false) :
    Calls Try.prog 44 #[.pointer (some ⟨X, 0, none⟩)] W fun e w' => ∃ m a', e = .returned (.string m) ∧ a' ≤ s.size ∧ RS w X s w' a' c n v l q1 q2 true := by
  refine (rvalue_any hs ha W h.rx).mono ?_
  rintro e w' ⟨h1, h2⟩
  rw [hn] at h2
  obtain ⟨m, a', h3, h4, h5⟩ := h2
  exact ⟨m, a', h3, h4, h.go h1 h5⟩
theorem rsvalue_ok {u : ByteArray} (hs : s.size ≤ 1000000) (ha : a ≤ s.size) (hn : valueF s a = .ok (u, b)) (h : RS w X s W a c n v l 0 0 false) :
    Calls Try.prog 44 #[.pointer (some ⟨X, 0, none⟩)] W fun e w' => e = .returned (.string u) ∧ RS w X s w' b c n v l 0 0 false := by
  refine (rvalue_any hs ha W h.rx).mono ?_
  rintro e w' ⟨h1, h2⟩
  rw [hn] at h2
  exact ⟨h2.2.1, h.go h1 h2.2.2⟩
end
theorem sees_at {s : ByteArray} {a : Nat} {d : Int} (h : seesF s a d = true) : ∃ h' : a < s.size, (((s[a]'h').toNat : Int) == d) = true := by
  have ha := seesF_lt h
  refine ⟨ha, ?_⟩
  unfold seesF at h
  rw [dif_pos ha] at h
  simpa using h
theorem sees_not {s : ByteArray} {a : Nat} {d : Int} (h : seesF s a d = false) (ha : a < s.size) : (((s[a]'ha).toNat : Int) == d) = false := by
  unfold seesF at h
  rw [dif_pos ha] at h
  simpa using h
end Go.Proofs.Ytaaegelefknkeab
