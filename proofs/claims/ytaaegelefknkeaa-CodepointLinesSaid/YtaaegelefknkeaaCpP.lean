/- The walks of the reference's FoldRune, sign, Reverse, Fold. -/
import Derived.Test.YtaaegelefknkeaaCpO
namespace Go.Proofs.Ytaaegelefknkeaa
open Go.RowKit Go.Shelf
set_option linter.unusedSimpArgs false

theorem FoldRune_any (r : Int) (w : World) (h0 : 0 ≤ r) (h1 : r ≤ 1114111) :
    Calls Try.prog 33 #[.int .i32 r] w fun e w' => e = .returned (.int .i32 (lowerF r)) ∧ w = w' := by
  go_enter Try.func33, Try.ntmps33
  go_wp2
  all_goals
    go_ret
    refine ⟨ret_int ?_, rfl⟩
    try simp only [bne_iff_ne, bne_eq_false_iff_eq, ne_eq] at *
    clear h0 h1
    unfold lowerF
    repeat' split
    all_goals omega
theorem sign_any (n : Int) (w : World) :
    Calls Try.prog 35 #[.int .i64 n] w fun e w' => e = .returned (.int .i64 (sgn n 0)) ∧ w = w' := by
  go_enter Try.func35, Try.ntmps35
  go_wp2
  all_goals
    go_ret
    refine ⟨ret_int ?_, rfl⟩
    unfold sgn
    repeat' split
    all_goals omega

theorem revL_app (s : ByteArray) (us : List U) (u : U) : revL s (us ++ [u]) = bytesU s u ++ revL s us := by simp [revL]
theorem take_snoc {α : Type} {l : List α} {k : Nat} {x : α} (h : l[k]? = some x) : l.take (k + 1) = l.take k ++ [x] := by
  obtain ⟨hk, rfl⟩ := List.getElem?_eq_some_iff.1 h
  exact List.take_succ_eq_append_getElem hk

set_option maxHeartbeats 4000000 in
theorem RReverse_any (s : ByteArray) (hs : s.size ≤ 1000000) (w : World) :
    Calls Try.prog 18 #[.string s] w fun e w' => e = .returned (.string (revF s)) ∧ Below w.heap.size w w' := by
  have hlen : (unitsOf s).length ≤ 1000000 := by have := unitsFrom_len s s.size 0; unfold unitsOf; omega
  go_enter Try.func18, Try.ntmps18
  go_wp2_with (go_at_call 19; refine (RUnits_any s hs _).mono ?_; rintro e wl ⟨v, rfl, hv, hbl⟩; obtain ⟨A, cap, rfl⟩ := OwnsR.len hv; have Hv := Lib.hid hv; have Hbl := Lib.hid hbl; clear hv hbl)
  obtain ⟨n, hn⟩ : ∃ n, n = (unitsOf s).length := ⟨_, rfl⟩
  have Hn := Lib.hid hn
  rw [← hn] at hlen Hv ⊢
  clear hn
  go_loopw [3, 9] (fun o i wr => ∃ (k : Nat) (b : ByteArray), k ≤ n ∧ i = .int .i64 k ∧ o = .string b ∧ b = revL s ((unitsOf s).take k) ∧ OwnsR wr w.heap.size (.slice A n cap) (unitsR s) ∧ Below w.heap.size w wr) (fun _ i _ => n - (intOf i).toNat)
  case atStart => exact ⟨0, _, by omega, rfl, rfl, rfl, Hv.out, Hbl.out⟩
  case round =>
    obtain ⟨k, b, hk, rfl, rfl, hb, how, hbe⟩ := hrel
    by_cases hkn : k < n
    · obtain ⟨u, hu⟩ : ∃ u, (unitsOf s)[k]? = some u := ⟨_, List.getElem?_eq_getElem (by have := Hn.out; omega)⟩
      obtain ⟨g, rfl, hgb, hglt, hx0, hx1, hx2, hx3⟩ := how.unit hu
      have hgu := goodU (List.mem_of_getElem? hu)
      have hfit := hgu.fit
      have hbs : b.size ≤ 4000000 := by
        rw [hb]
        have := revL_size s ((unitsOf s).take k) (fun u hu => (goodU (List.mem_of_mem_take hu)).w4)
        simp at this; omega
      have hus := bytesU_size s u
      have hwr : IntKind.i64.wrap ((u.2.1 : Int) + u.2.2) = (u.2.1 : Int) + u.2.2 := IntWalk.i64_in _ (by omega)
      have hsl : ∀ W', (Instr.slice 9 (.string s) (some (.int .i64 u.2.1)) (some (.int .i64 ((u.2.1 : Int) + u.2.2))) none).run Try.prog W' = .ok (.string (bytesU s u)) W' := fun W' => by
        rw [run_slice_string W' 9 s .i64 .i64 _ _ Try.underlying9 (by omega) (by omega) (by omega)]
        unfold bytesU
        congr 3
      have hw4 := hgu.w4
      have How := Lib.hid how
      have Hbe := Lib.hid hbe
      have Hu := Lib.hid hu
      have Hb := Lib.hid hb
      clear how hbe hu hb hgu
      go_wp2
      go_roundw
      case rel =>
        refine ⟨k + 1, _, by omega, by go_num, rfl, ?_, World.ownsRow.alloc How.out _, Hbe.out.alloc Hbe.out.size _⟩
        rw [take_snoc Hu.out, revL_app, Hb.out]
      case measure => simp [intOf]; omega
    · obtain rfl : k = n := by omega
      rw [List.take_of_length_le (by have := Hn.out; omega)] at hb
      have Hb := Lib.hid hb
      have Hbe := Lib.hid hbe
      clear hb hbe how
      go_wp2
      go_ret
      exact ⟨by rw [Hb.out]; rfl, Hbe.out⟩

theorem fold_bad {u : U} (h : okU u = false) : lowerF u.1 = u.1 := by
  have h1 : u.1 = 65533 := by
    simp [okU] at h; exact h.1
  rw [h1]; decide

set_option maxHeartbeats 4000000 in
theorem RFold_any (s : ByteArray) (hs : s.size ≤ 1000000) (w : World) :
    Calls Try.prog 26 #[.string s] w fun e w' => e = .returned (.string (foldF s)) ∧ Below w.heap.size w w' := by
  have hlen : (unitsOf s).length ≤ 1000000 := by have := unitsFrom_len s s.size 0; unfold unitsOf; omega
  go_enter Try.func26, Try.ntmps26
  go_wp2_with (go_at_call 19; refine (RUnits_any s hs _).mono ?_; rintro e wl ⟨v, rfl, hv, hbl⟩; obtain ⟨A, cap, rfl⟩ := OwnsR.len hv; have Hv := Lib.hid hv; have Hbl := Lib.hid hbl; clear hv hbl)
  obtain ⟨n, hn⟩ : ∃ n, n = (unitsOf s).length := ⟨_, rfl⟩
  have Hn := Lib.hid hn
  rw [← hn] at hlen Hv ⊢
  clear hn
  go_loopw [3, 9] (fun o i wr => ∃ (k : Nat) (b : ByteArray), k ≤ n ∧ i = .int .i64 k ∧ o = .string b ∧ b = foldL s ((unitsOf s).take k) ∧ OwnsR wr w.heap.size (.slice A n cap) (unitsR s) ∧ Below w.heap.size w wr) (fun _ i _ => n - (intOf i).toNat)
  case atStart => exact ⟨0, _, by omega, rfl, rfl, rfl, Hv.out, Hbl.out⟩
  case round =>
    obtain ⟨k, b, hk, rfl, rfl, hb, how, hbe⟩ := hrel
    by_cases hkn : k < n
    · obtain ⟨u, hu⟩ : ∃ u, (unitsOf s)[k]? = some u := ⟨_, List.getElem?_eq_getElem (by have := Hn.out; omega)⟩
      obtain ⟨g, rfl, hgb, hglt, hx0, hx1, hx2, hx3⟩ := how.unit hu
      have hgu := goodU (List.mem_of_getElem? hu)
      have hfit := hgu.fit
      have hr := hgu.r
      have hbs : b.size ≤ 4000000 := by
        rw [hb]
        have := foldL_size s ((unitsOf s).take k) (fun u hu => (goodU (List.mem_of_mem_take hu)).w4)
        simp at this; omega
      have hus := bytesU_size s u
      have hes := encode_size_le (lowerF u.1)
      have hwr : IntKind.i64.wrap ((u.2.1 : Int) + u.2.2) = (u.2.1 : Int) + u.2.2 := IntWalk.i64_in _ (by omega)
      have hsl : ∀ W', (Instr.slice 9 (.string s) (some (.int .i64 u.2.1)) (some (.int .i64 ((u.2.1 : Int) + u.2.2))) none).run Try.prog W' = .ok (.string (bytesU s u)) W' := fun W' => by
        rw [run_slice_string W' 9 s .i64 .i64 _ _ Try.underlying9 (by omega) (by omega) (by omega)]
        unfold bytesU
        congr 3
      have hw4 := hgu.w4
      have hstep : foldL s ((unitsOf s).take (k + 1)) = b ++ foldU s u := by rw [take_snoc hu, foldL_snoc, hb]
      have Hst := Lib.hid hstep
      have How := Lib.hid how
      have Hbe := Lib.hid hbe
      clear how hbe hu hb hgu hstep
      cases hok : okU u with
      | false =>
        have hl := fold_bad hok
        rw [hok] at hx3
        have Hok := Lib.hid hok
        have Hl := Lib.hid hl
        clear hok hl
        go_wp2
        go_quiet (fail)
        go_wp2
        go_roundw
        case rel =>
          refine ⟨k + 1, _, by omega, by go_num, rfl, ?_, World.ownsRow.alloc How.out _, below_drewN (Hbe.out.alloc Hbe.out.size _) nq⟩
          rw [Hst.out, foldU, if_pos Hl.out]
        case measure => simp [intOf]; omega
      | true =>
        rw [hok] at hx3
        have Hok := Lib.hid hok
        clear hok
        by_cases hl : lowerF u.1 = u.1
        · have e1 : (lowerF u.1 != (u.1 : Int)) = false := by simp [hl]
          have Hl := Lib.hid hl
          clear hl
          go_wp2
          go_quiet ((go_at_call 33; exact Calls.quiet_of_same ((FoldRune_any _ _ (by omega) (by omega)).mono fun e w' h => ⟨h.1, h.2.symm⟩)))
          go_wp2
          go_roundw
          case rel =>
            refine ⟨k + 1, _, by omega, by go_num, rfl, ?_, World.ownsRow.alloc How.out _, below_drewN (Hbe.out.alloc Hbe.out.size _) nq⟩
            rw [Hst.out, foldU, if_pos Hl.out]
          case measure => simp [intOf]; omega
        · have e1 : (lowerF u.1 != (u.1 : Int)) = true := by simp [hl]
          have Hl := Lib.hid hl
          clear hl
          go_wp2
          go_quiet ((go_at_call 33; exact Calls.quiet_of_same ((FoldRune_any _ _ (by omega) (by omega)).mono fun e w' h => ⟨h.1, h.2.symm⟩)))
          go_wp2_with (go_at_call 33; refine (FoldRune_any _ _ (by omega) (by omega)).mono ?_; rintro e w' ⟨rfl, rfl⟩)
          go_roundw
          case rel =>
            refine ⟨k + 1, _, by omega, by go_num, rfl, ?_, World.ownsRow.alloc How.out _, below_drewN (Hbe.out.alloc Hbe.out.size _) nq⟩
            rw [Hst.out, foldU, if_neg Hl.out]
          case measure => simp [intOf]; omega
    · obtain rfl : k = n := by omega
      rw [List.take_of_length_le (by have := Hn.out; omega)] at hb
      have Hb := Lib.hid hb
      have Hbe := Lib.hid hbe
      clear hb hbe how
      go_wp2
      go_ret
      exact ⟨by rw [Hb.out]; rfl, Hbe.out⟩
end Go.Proofs.Ytaaegelefknkeaa
