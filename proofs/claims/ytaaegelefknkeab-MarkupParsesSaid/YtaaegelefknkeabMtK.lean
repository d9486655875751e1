/- awake: the document's examples. -/
import Derived.Test.YtaaegelefknkeabMtJ
namespace Go.Proofs.Ytaaegelefknkeab
open Go.RowKit Go.Shelf
set_option linter.unusedSimpArgs false

theorem awake_tag : tagF ⟨#[60, 115, 32, 110, 61, 34, 49, 34, 62]⟩ = .ok (false, ⟨#[115]⟩, [(⟨#[110]⟩, ⟨#[49]⟩)]) := by kernel_rfl
theorem awake_fmt : fmtF (false, ⟨#[115]⟩, [(⟨#[98]⟩, ⟨#[60]⟩), (⟨#[97]⟩, ⟨#[]⟩)]) = (⟨#[60, 115, 32, 97, 61, 34, 34, 32, 98, 61, 34, 38, 108, 116, 59, 34, 62]⟩, 0) := by kernel_rfl
theorem awake_name : vnF ⟨#[97, 45, 49]⟩ = true := by kernel_rfl

theorem parse_ok {s : ByteArray} {q : Tg} (hs : s.size ≤ 1000000) (h : tagF s = .ok q) (w : World) :
    Calls Try.prog 23 #[.string s] w fun e w' => ∃ v, e = .returned (.tuple #[.agg #[.bool q.1, .string q.2.1, v], .int .i64 0, .int .i64 0]) ∧ OwnsP w' w.heap.size v q.2.2 ∧ Below w.heap.size w w' := by
  refine (ParseTag_any s hs w).mono ?_
  rintro e w' ⟨h1, h2⟩
  rw [h] at h1
  obtain ⟨v, h3, h4⟩ := h1
  exact ⟨v, h3, h4, h2⟩

theorem two_rd (W : World) (a b c d : ByteArray) (B : Nat) (hB : W.heap.size = B) : RdP (W.alloc (.cells #[.string a, .string b, .string c, .string d] 52)) (.slice (some ⟨B, 0, none⟩) 2 2) [(a, b), (c, d)] (some ⟨B, 0, none⟩) 2 := by
  subst hB
  have hr := heap_alloc_new W (.cells #[.string a, .string b, .string c, .string d] 52)
  refine ⟨rfl, Nat.le_refl _, by decide, fun i p hi => ⟨W.heap.size, 0, rfl, ?_, ?_⟩⟩
  all_goals
    rw [cell_of_row _ W.heap.size _ _ 52 (0, 0) hr]
    match i, hi with
    | 0, hi => cases hi; rfl
    | 1, hi => cases hi; rfl

set_option maxHeartbeats 1000000 in
theorem awake_any (w : World) : Calls Try.prog 16 #[] w fun e w' => e = .returned (.bool true) ∧ Below w.heap.size w w' := by
  have HP : Hid _ := Lib.hid (fun w => parse_ok (s := ⟨#[60, 115, 32, 110, 61, 34, 49, 34, 62]⟩) (by decide) awake_tag w)
  have HF : Hid (∀ (w : World) (v : Value) (a : Option Addr) (cap : Nat), RdP w v [(⟨#[98]⟩, ⟨#[60]⟩), (⟨#[97]⟩, ⟨#[]⟩)] a cap → Calls Try.prog 27 #[.agg #[.bool false, .string ⟨#[115]⟩, v]] w fun e w' => e = .returned (.tuple #[.string ⟨#[60, 115, 32, 97, 61, 34, 34, 32, 98, 61, 34, 38, 108, 116, 59, 34, 62]⟩, .int .i64 0]) ∧ Below w.heap.size w w') := Lib.hid (fun w v a cap h => by
    have := FormatTag_any false ⟨#[115]⟩ _ v a cap w h (by decide) (by decide)
    rw [awake_fmt] at this
    exact this)
  have HN : Hid (∀ w : World, Calls Try.prog 14 #[.string ⟨#[97, 45, 49]⟩] w fun e w' => e = .returned (.bool true) ∧ w = w') := Lib.hid (fun w => by
    have := ValidName_any ⟨#[97, 45, 49]⟩ (by decide) w
    rw [awake_name] at this
    exact this)
  go_enter Try.func16, Try.ntmps16
  go_wp2_with (go_at_call 23; refine (HP.out _).mono ?_; rintro e w1 ⟨v, rfl, hown, hb1⟩; obtain ⟨g, cap, rfl, hbg, hle, hmx, n0, n1⟩ := hown.at (i := 0) rfl)
  refine (HF.out _ _ _ _ (two_rd _ _ _ _ _ (w1.heap.size + 1) (by simp))).mono ?_
  rintro e w4 ⟨rfl, hb4⟩
  dsimp only
  have ba := b0 w1 (.cells #[.bool false, .string ⟨#[115]⟩, .slice (some ⟨g, 0, none⟩) 1 cap] 33)
  have bb := b0 (w1.alloc (.cells #[.bool false, .string ⟨#[115]⟩, .slice (some ⟨g, 0, none⟩) 1 cap] 33)) (.cells #[.string ⟨#[98]⟩, .string ⟨#[60]⟩, .string ⟨#[97]⟩, .string ⟨#[]⟩] 52)
  have hT1 := heap_alloc_new w1 (.cells #[.bool false, .string ⟨#[115]⟩, .slice (some ⟨g, 0, none⟩) 1 cap] 33)
  have hb14 := bchain (bchain ba bb) hb4
  have hT4 := ((bb.mono ba.size).trans (hb4.mono (bchain ba bb).size)).block
  have hT5 : w4.heap[w1.heap.size]? = some (.cells #[.bool false, .string ⟨#[115]⟩, .slice (some ⟨g, 0, none⟩) 1 cap] 33 (0, 0)) := by
    have e1 := bb.block w1.heap.size (by rw [World.size_alloc]; omega)
    have e2 := hb4.block w1.heap.size (by rw [World.size_alloc, World.size_alloc]; omega)
    rw [e2, e1]
    exact hT1
  obtain ⟨z0, z1, z2, _, _, _⟩ := tag_of_row hT5
  have m0 := (World.cell?_of_block (hb14.block _ (World.block_lt_of_cell? _ _ n0))).trans n0
  have m1 := (World.cell?_of_block (hb14.block _ (World.block_lt_of_cell? _ _ n1))).trans n1
  simp only [Nat.zero_mul, Nat.zero_add] at m0 m1
  have HB := Lib.hid (bchain hb1 hb14)
  clear ba bb hT1 hb14 hT4 hT5 n0 n1 hb4 hb1 hown
  go_wp2_with (go_at_call 14; refine (HN.out _).mono ?_; rintro e w5 ⟨rfl, rfl⟩)
  go_ret
  exact ⟨rfl, HB.out⟩
end Go.Proofs.Ytaaegelefknkeab
