/- The scanner's key. -/
import Derived.Test.YtaaegelefknkeabMtA
namespace Go.Proofs.Ytaaegelefknkeab
open Go.RowKit Go.Shelf
set_option linter.unusedSimpArgs false

theorem Sc.kept {X : Nat} {w w' : World} (h : Sc X w w') {k : Nat} {o : Obj} (hk : w.heap[k]? = some o) (hne : k ≠ X) : w'.heap[k]? = some o :=
  (h.block k (Array.getElem?_eq_some_iff.1 hk).1 hne).trans hk
theorem Sc.setNew {X : Nat} {w W : World} (h : Sc X w W) {B : Nat} (hB : w.heap.size ≤ B) (o : Nat) (v : Value) : Sc X w (W.setCell ⟨B, o, none⟩ v) :=
  ⟨h.os, h.tape, h.output, Nat.le_trans h.size (KeepsWalks.setCell W _ v).size, fun k hk hx => (Below.heap_setCell _ _ _ _ (show k ≠ B by omega)).trans (h.block k hk hx)⟩
theorem SX.other {W : World} {X : Nat} {s : ByteArray} {a : Nat} (h : SX W X s a) {B : Nat} (hB : X ≠ B) (o : Nat) (v : Value) : SX (W.setCell ⟨B, o, none⟩ v) X s a :=
  (Below.heap_setCell _ _ _ _ hB).trans h
theorem pair_of_row {W : World} {B : Nat} {a b : Value} (h : W.heap[B]? = some (.cells #[a, b] 52 (0, 0))) : W.cell? ⟨B, 0, none⟩ = some a ∧ W.cell? ⟨B, 1, none⟩ = some b ∧ W.frozen? ⟨B, 0, none⟩ = false ∧ W.frozen? ⟨B, 1, none⟩ = false := by
  refine ⟨?_, ?_, ?_, ?_⟩
  · rw [cell_of_row _ B 0 _ 52 (0, 0) h]; rfl
  · rw [cell_of_row _ B 1 _ 52 (0, 0) h]; rfl
  · simp [World.frozen?, h]
  · simp [World.frozen?, h]

set_option maxHeartbeats 4000000 in
theorem key_any (X : Nat) (s : ByteArray) (a : Nat) (l : List Pr) (v : Value) (ad : Option Addr) (cap : Nat) (hs : s.size ≤ 1000000) (w : World) (hx : SX w X s a) (ha : a ≤ s.size) (hr : RdP w v l ad cap) :
    Calls Try.prog 55 #[.pointer (some ⟨X, 0, none⟩), v] w fun e w' => Sc X w w' ∧ KeyPost X s (keyF s a l) e w' := by
  obtain rfl := hr.eq
  have hs2 : s.size ≤ 140737488351232 := by omega
  have hmx : l.length ≤ 9223372036854775807 := Nat.le_trans hr.le hr.max
  have h0 := hx.c0
  have h1 := hx.c1
  have hl := hx.lt
  have HX := Lib.hid hx
  have HR := Lib.hid hr
  clear hr hx
  unfold keyF
  cases hn : nameF s a with
  | error q =>
    dsimp only
    have HN := Lib.hid hn
    clear hn
    obtain ⟨q1, q2⟩ := q
    go_enter Try.func55, Try.ntmps55
    go_wp2_with (go_at_call 54; refine (name_err hs2 HN.out _ (HX.out.below (b0 w _)) ha).mono ?_; rintro e w1 ⟨rfl, hsc⟩)
    exact ⟨rfl, (Sc.of (b0 w _)).trans hsc, rfl⟩
  | ok b =>
    dsimp only
    have hb := nameF_ok hn
    have HN := Lib.hid hn
    clear hn
    obtain ⟨n, hnn⟩ : ∃ n, n = s.extract a b := ⟨_, rfl⟩
    rw [← hnn]
    have HNN := Lib.hid hnn
    clear hnn
    cases hh : hasF l n with
    | true =>
      rw [if_pos rfl]
      have HH := Lib.hid hh
      clear hh
      go_enter Try.func55, Try.ntmps55
      go_wp2_with (first | (go_at_call 54; refine (name_ok hs2 HN.out _ (HX.out.below (b0 w _)) ha).mono ?_; rintro e w1 ⟨rfl, hsc, hx1⟩; rw [← HNN.out]) | (go_at_call 56; refine (has_any l n _ _ _ _ ((HR.out.below (b0 w _)).sc (HX.out.below (b0 w _)) hsc)).mono ?_; rw [HH.out]; rintro e w2 ⟨rfl, hb2⟩))
      exact ⟨rfl, ((Sc.of (b0 w _)).trans hsc).trans (Sc.of hb2), rfl⟩
    | false =>
      rw [if_neg (by simp)]
      have HH := Lib.hid hh
      clear hh
      by_cases h8 : l.length = 8
      · rw [if_pos h8]
        have h8' : ((l.length : Int) == 8) = true := by simp; omega
        clear h8
        go_enter Try.func55, Try.ntmps55
        go_wp2_with (first | (go_at_call 54; refine (name_ok hs2 HN.out _ (HX.out.below (b0 w _)) ha).mono ?_; rintro e w1 ⟨rfl, hsc, hx1⟩; rw [← HNN.out]) | (go_at_call 56; refine (has_any l n _ _ _ _ ((HR.out.below (b0 w _)).sc (HX.out.below (b0 w _)) hsc)).mono ?_; rw [HH.out]; rintro e w2 ⟨rfl, hb2⟩))
        exact ⟨rfl, ((Sc.of (b0 w _)).trans hsc).trans (Sc.of hb2), rfl⟩
      · rw [if_neg h8]
        have h8' : ((l.length : Int) == 8) = false := by simp; omega
        clear h8
        cases h61 : seesF s b 61 with
        | false =>
          rw [if_neg (by simp)]
          have H61 := Lib.hid h61
          clear h61
          go_enter Try.func55, Try.ntmps55
          go_wp2_with (first | (go_at_call 54; refine (name_ok hs2 HN.out _ (HX.out.below (b0 w _)) ha).mono ?_; rintro e w1 ⟨rfl, hsc, hx1⟩; rw [← HNN.out]) | (go_at_call 56; refine (has_any l n _ _ _ _ ((HR.out.below (b0 w _)).sc (HX.out.below (b0 w _)) hsc)).mono ?_; rw [HH.out]; rintro e w2 ⟨rfl, hb2⟩) | (go_at_call 52; refine (eat_no hs2 H61.out _ (hx1.below hb2) hb.2.1).mono ?_; rintro e w3 ⟨rfl, hsc3⟩))
          exact ⟨rfl, (((Sc.of (b0 w _)).trans hsc).trans (Sc.of hb2)).trans hsc3, rfl⟩
        | true =>
          rw [if_pos rfl]
          have h61b := seesF_lt h61
          have H61 := Lib.hid h61
          clear h61
          cases h34 : seesF s (b + 1) 34 with
          | false =>
            rw [if_neg (by simp)]
            have H34 := Lib.hid h34
            clear h34
            go_enter Try.func55, Try.ntmps55
            go_wp2_with (first | (go_at_call 54; refine (name_ok hs2 HN.out _ (HX.out.below (b0 w _)) ha).mono ?_; rintro e w1 ⟨rfl, hsc, hx1⟩; rw [← HNN.out]) | (go_at_call 56; refine (has_any l n _ _ _ _ ((HR.out.below (b0 w _)).sc (HX.out.below (b0 w _)) hsc)).mono ?_; rw [HH.out]; rintro e w2 ⟨rfl, hb2⟩) | (go_at_call 52; with_reducible refine (eat_yes hs2 H61.out _ (hx1.below hb2) hb.2.1).mono ?_; rintro e w3 ⟨rfl, hsc3, hx3⟩) | (go_at_call 52; refine (eat_no hs2 H34.out _ hx3 (by omega)).mono ?_; rintro e w4 ⟨rfl, hsc4⟩))
            exact ⟨rfl, ((((Sc.of (b0 w _)).trans hsc).trans (Sc.of hb2)).trans hsc3).trans hsc4, rfl⟩
          | true =>
            rw [if_pos rfl]
            have h34b := seesF_lt h34
            have H34 := Lib.hid h34
            clear h34
            cases hv : valueF s (b + 2) with
            | error q =>
              dsimp only
              obtain ⟨q1, q2⟩ := q
              have HV := Lib.hid hv
              clear hv
              go_enter Try.func55, Try.ntmps55
              go_wp2_with (first | (go_at_call 54; refine (name_ok hs2 HN.out _ (HX.out.below (b0 w _)) ha).mono ?_; rintro e w1 ⟨rfl, hsc, hx1⟩; rw [← HNN.out]) | (go_at_call 56; refine (has_any l n _ _ _ _ ((HR.out.below (b0 w _)).sc (HX.out.below (b0 w _)) hsc)).mono ?_; rw [HH.out]; rintro e w2 ⟨rfl, hb2⟩) | (go_at_call 52; with_reducible refine (eat_yes hs2 H61.out _ (hx1.below hb2) hb.2.1).mono ?_; rintro e w3 ⟨rfl, hsc3, hx3⟩) | (go_at_call 52; refine (eat_yes hs2 H34.out _ hx3 (by omega)).mono ?_; rintro e w4 ⟨rfl, hsc4, hx4⟩) | (go_at_call 59; refine (value_err hs HV.out _ hx4 (by omega)).mono ?_; rintro e w5 ⟨rfl, hsc5⟩))
              exact ⟨rfl, (((((Sc.of (b0 w _)).trans hsc).trans (Sc.of hb2)).trans hsc3).trans hsc4).trans hsc5, rfl⟩
            | ok q =>
              dsimp only
              obtain ⟨q1, q2⟩ := q
              have HV := Lib.hid hv
              clear hv
              go_enter Try.func55, Try.ntmps55
              go_wp2_with (first | (go_at_call 54; refine (name_ok hs2 HN.out _ (HX.out.below (b0 w _)) ha).mono ?_; rintro e w1 ⟨rfl, hsc, hx1⟩; rw [← HNN.out]) | (go_at_call 56; refine (has_any l n _ _ _ _ ((HR.out.below (b0 w _)).sc (HX.out.below (b0 w _)) hsc)).mono ?_; rw [HH.out]; rintro e w2 ⟨rfl, hb2⟩) | (go_at_call 52; with_reducible refine (eat_yes hs2 H61.out _ (hx1.below hb2) hb.2.1).mono ?_; rintro e w3 ⟨rfl, hsc3, hx3⟩) | (go_at_call 52; refine (eat_yes hs2 H34.out _ hx3 (by omega)).mono ?_; rintro e w4 ⟨rfl, hsc4, hx4⟩) | (go_at_call 59; refine (value_ok hs HV.out _ hx4 (by omega)).mono ?_; rintro e w5 ⟨rfl, hsc5, hx5⟩; have hrow := pair_of_row ((((hsc.trans (Sc.of hb2)).trans hsc3).trans (hsc4.trans hsc5)).kept (heap_alloc_new w _) (by omega)); obtain ⟨r0, r1, f0, f1⟩ := hrow))
              refine bodyPost_ret (v := .agg #[.string n, .string q1]) (by simp [results, Try.results55, go_sem, r0, r1, f0, f1]) rfl ⟨?_, rfl, ?_⟩
              · exact ((((((Sc.of (b0 w _)).trans hsc).trans (Sc.of hb2)).trans hsc3).trans (hsc4.trans hsc5)).setNew (Nat.le_refl _) _ _).setNew (Nat.le_refl _) _ _
              · exact (hx5.other (by omega) _ _).other (by omega) _ _
end Go.Proofs.Ytaaegelefknkeab
