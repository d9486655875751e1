/- A shorter beginning of a value, and values joined. -/
import Derived.Test.YtaaegelefknkeabNtC
namespace Go.Proofs.Ytaaegelefknkeab
open Go.RowKit Go.Shelf
set_option linter.unusedSimpArgs false
set_option linter.unusedVariables false

theorem unit_off (s : ByteArray) : ∀ f pos i u, (unitsFrom s f pos)[i]? = some u → u.2.1 = pos + (((unitsFrom s f pos).take i).map (·.2.2)).sum := by
  intro f
  induction f with
  | zero => intro pos i u h; simp [unitsFrom] at h
  | succ f ih =>
    intro pos i u h
    by_cases hp : pos < s.size
    · rw [unitsFrom, if_pos hp] at h ⊢
      cases i with
      | zero => simp at h; subst h; simp
      | succ i =>
        rw [List.getElem?_cons_succ] at h
        have := ih _ _ _ h
        rw [this, List.take_succ_cons, List.map_cons, List.sum_cons]
        dsimp only
        omega
    · rw [unitsFrom_end s _ _ hp] at h
      simp at h
theorem flat_len (xs : List P) : (flat xs).length = (xs.map (·.2.length)).sum := by
  induction xs with
  | nil => rfl
  | cons x xs ih =>
    rw [flat_cons, List.length_append, ih, List.map_cons, List.sum_cons]
/-- A valid string's beginning up to a unit is valid, and so is the rest. -/
theorem valid_cut {s : ByteArray} (h : validF s = true) {i : Nat} {u : U} (hu : (unitsOf s)[i]? = some u) : validF (s.extract 0 u.2.1) = true ∧ validF (s.extract u.2.1 s.size) = true ∧ u.2.1 < s.size := by
  have hm : u ∈ unitsOf s := List.mem_of_getElem? hu
  have hg := goodU hm
  have hlt : u.2.1 < s.size := (unitsFrom_mem s u s.size 0 hm).2.2
  have hoff := unit_off s s.size 0 i u hu
  have hlen : (flat ((pcs s).take i)).length = u.2.1 := by
    rw [flat_len, hoff]
    unfold pcs
    rw [← List.map_take, List.map_map, Nat.zero_add]
    congr 1
    apply List.map_congr_left
    intro x hx
    exact pcU_len (List.mem_of_mem_take hx)
  have hl : lst (s.extract 0 u.2.1) = flat ((pcs s).take i) := by
    rw [lst_extract, List.drop_zero, Nat.sub_zero, ← hlen, ← pcs_flat s]
    conv => lhs; rw [← List.take_append_drop i (pcs s), flat_append]
    rw [List.take_append_of_le_length (by rw [List.take_append_drop]; exact Nat.le_refl _)]
    rw [List.take_append_drop]
    exact List.take_of_length_le (Nat.le_refl _)
  have hp : pcs (s.extract 0 u.2.1) = (pcs s).take i := by
    refine pcs_eq ?_
    rw [hl]
    exact Us.good fun x hx => good_of_valid h x (List.mem_of_mem_take hx)
  have hv : validF (s.extract 0 u.2.1) = true := by
    rw [valid_pcs, hp, List.all_eq_true]
    exact fun x hx => valid_iff.1 h x (List.mem_of_mem_take hx)
  exact ⟨hv, by rw [valid_rest hv]; exact h, hlt⟩
theorem vv_cut {s : ByteArray} (h : vvF s = 0) {i : Nat} {u : U} (hu : (unitsOf s)[i]? = some u) : vvF (s.extract 0 u.2.1) = 0 ∧ vvF (s.extract u.2.1 s.size) = 0 ∧ u.2.1 < s.size := by
  obtain ⟨h1, h2, h3⟩ := vvF_zero.1 h
  obtain ⟨c1, c2, c3⟩ := valid_cut h2 hu
  rw [List.any_eq_false] at h3
  refine ⟨vvF_zero.2 ⟨by rw [ByteArray.size_extract]; omega, c1, ?_⟩, vvF_zero.2 ⟨by rw [ByteArray.size_extract]; omega, c2, ?_⟩, c3⟩
  · rw [List.any_eq_false]
    intro x hx
    rw [lst_extract] at hx
    exact h3 x (List.mem_of_mem_drop (List.mem_of_mem_take hx))
  · rw [List.any_eq_false]
    intro x hx
    rw [lst_extract] at hx
    exact h3 x (List.mem_of_mem_drop (List.mem_of_mem_take hx))
theorem vv_join {s t : ByteArray} (hs : vvF s = 0) (ht : vvF t = 0) : vvF (s ++ t) = if 120 < s.size + t.size then 2 else 0 := by
  obtain ⟨h1, h2, h3⟩ := vvF_zero.1 hs
  obtain ⟨k1, k2, k3⟩ := vvF_zero.1 ht
  split
  · rename_i h
    rw [vvF_bytes, if_pos (by rw [ByteArray.size_append]; exact h)]
  · rename_i h
    exact vvF_zero.2 ⟨by rw [ByteArray.size_append]; omega, join_valid h2 k2, by rw [lst_append, List.any_append, h3, k3]; rfl⟩

set_option maxHeartbeats 1000000 in
theorem ValidValue_all (s : ByteArray) (w : World) : Calls Try.prog 17 #[.string s] w fun e w' => e = .returned (.int .i64 (vvF s)) ∧ Below w.heap.size w w' := by
  by_cases h : 120 < s.size
  · unfold vvF
    rw [if_pos h]
    have hl' : (120 : Int) < s.size := by omega
    go_enter Try.func17, Try.ntmps17
    go_wp2
    go_ret
    exact ⟨rfl, Below.refl _ _⟩
  · exact ValidValue_any s (by omega) w

set_option maxHeartbeats 1000000 in
theorem walk_Prefixes (s t : ByteArray) (i : Int) (hi0 : -9223372036854775808 ≤ i) (hi1 : i ≤ 9223372036854775807) (w : World) :
    Calls Try.prog 13 #[.string s, .string t, .int .i64 i] w fun e w' => e = .returned (.bool true) ∧ Below w.heap.size w w' := by
  have hS := ValidValue_all s
  have hT := ValidValue_all t
  by_cases hs : vvF s = 0
  case neg =>
    have e1 : (vvF s != 0) = true := by simp [hs]
    generalize vvF s = x at hS e1
    have HS := Lib.hid hS
    clear hS hT hs hi0 hi1
    go_enter Try.func13, Try.ntmps13
    go_wp2_with (go_at_call 17; refine (HS.out _).mono ?_; rintro e w1 ⟨rfl, hb1⟩; have HB1 := Lib.hid hb1; clear hb1)
    go_ret
    exact ⟨rfl, HB1.out⟩
  by_cases ht : vvF t = 0
  case neg =>
    have e1 : (vvF t != 0) = true := by simp [ht]
    rw [hs] at hS
    generalize vvF t = x at hT e1
    have HS := Lib.hid hS
    have HT := Lib.hid hT
    clear hS hT hs ht hi0 hi1
    go_enter Try.func13, Try.ntmps13
    go_wp2_with (first | (go_at_call 17; with_reducible refine (HT.out _).mono ?_; rintro e w2 ⟨rfl, hb2⟩; have HB2 := Lib.hid hb2; clear hb2) | (go_at_call 17; with_reducible refine (HS.out _).mono ?_; rintro e w1 ⟨rfl, hb1⟩; have HB1 := Lib.hid hb1; clear hb1))
    go_ret
    exact ⟨rfl, bchain HB1.out HB2.out⟩
  have hs120 := (vvF_zero.1 hs).1
  have ht120 := (vvF_zero.1 ht).1
  have hST := fun w => ValidValue_all (s ++ t) w
  rw [vv_join hs ht] at hST
  have hAt := At_any s i (by omega) hi0 hi1
  have HA := Lib.hid awake_any
  rw [hs] at hS
  rw [ht] at hT
  have HS := Lib.hid hS
  have HT := Lib.hid hT
  have HSs := Lib.hid hs
  clear hS hT ht
  cases ha : atF (unitsOf s) i with
  | none =>
    rw [ha] at hAt
    unfold atV at hAt
    have HAT := Lib.hid hAt
    clear hAt ha hs hi0 hi1
    by_cases h120 : 120 < s.size + t.size
    · rw [if_pos h120] at hST
      have h120' : (120 : Int) < (s.size : Int) + t.size := by omega
      have HST := Lib.hid hST
      clear hST
      go_enter Try.func13, Try.ntmps13
      go_wp2_with (first | (go_at_call 17; with_reducible refine (HST.out _).mono ?_; rintro e w6 ⟨rfl, hb⟩; have HB6 := Lib.hid hb; clear hb) | (go_at_call 17; with_reducible refine (HT.out _).mono ?_; rintro e w2 ⟨rfl, hb⟩; have HB2 := Lib.hid hb; clear hb) | (go_at_call 17; with_reducible refine (HS.out _).mono ?_; rintro e w1 ⟨rfl, hb⟩; have HB1 := Lib.hid hb; clear hb) | (go_at_call 31; refine (HAT.out _).mono ?_; rintro e w3 ⟨rfl, hb⟩; have HB3 := Lib.hid hb; clear hb) | (go_at_call 16; refine (HA.out _).mono ?_; rintro e w7 ⟨rfl, hb⟩; have HB7 := Lib.hid hb; clear hb))
      go_ret
      exact ⟨rfl, bchain (bchain (bchain (bchain (HB1.out) HB2.out) HB3.out) HB6.out) HB7.out⟩
    · rw [if_neg h120] at hST
      have h120' : ¬ (120 : Int) < (s.size : Int) + t.size := by omega
      have HST := Lib.hid hST
      clear hST
      go_enter Try.func13, Try.ntmps13
      go_wp2_with (first | (go_at_call 17; with_reducible refine (HST.out _).mono ?_; rintro e w6 ⟨rfl, hb⟩; have HB6 := Lib.hid hb; clear hb) | (go_at_call 17; with_reducible refine (HT.out _).mono ?_; rintro e w2 ⟨rfl, hb⟩; have HB2 := Lib.hid hb; clear hb) | (go_at_call 17; with_reducible refine (HS.out _).mono ?_; rintro e w1 ⟨rfl, hb⟩; have HB1 := Lib.hid hb; clear hb) | (go_at_call 31; refine (HAT.out _).mono ?_; rintro e w3 ⟨rfl, hb⟩; have HB3 := Lib.hid hb; clear hb) | (go_at_call 16; refine (HA.out _).mono ?_; rintro e w7 ⟨rfl, hb⟩; have HB7 := Lib.hid hb; clear hb))
      go_ret
      exact ⟨rfl, bchain (bchain (bchain (bchain (HB1.out) HB2.out) HB3.out) HB6.out) HB7.out⟩
  | some u =>
    obtain ⟨j, hj⟩ : ∃ j : Nat, (unitsOf s)[j]? = some u := by
      unfold atF at ha
      split at ha
      · exact ⟨_, ha⟩
      · cases ha
    obtain ⟨c1, c2, c3⟩ := vv_cut hs hj
    rw [ha] at hAt
    unfold atV at hAt
    obtain ⟨u1, u2, u3⟩ := u
    dsimp only at c1 c2 c3 hAt
    have hC1 := fun w => ValidValue_all (s.extract 0 u2) w
    have hC2 := fun w => ValidValue_all (s.extract u2 s.size) w
    rw [c1] at hC1
    rw [c2] at hC2
    have HAT := Lib.hid hAt
    have HC1 := Lib.hid hC1
    have HC2 := Lib.hid hC2
    have g1 : ¬ (s.size : Int) < u2 := by omega
    have g2 : ¬ (u2 : Int) < 0 := by omega
    have g3 : (u2 : Int) ≤ s.size := by omega
    clear hAt ha hs hi0 hi1 hC1 hC2 c1 c2 hj
    by_cases h120 : 120 < s.size + t.size
    · rw [if_pos h120] at hST
      have h120' : (120 : Int) < (s.size : Int) + t.size := by omega
      have HST := Lib.hid hST
      clear hST
      go_enter Try.func13, Try.ntmps13
      go_wp2_with (first | (go_at_call 17; with_reducible refine (HST.out _).mono ?_; rintro e w6 ⟨rfl, hb⟩; have HB6 := Lib.hid hb; clear hb) | (go_at_call 17; with_reducible refine (HT.out _).mono ?_; rintro e w2 ⟨rfl, hb⟩; have HB2 := Lib.hid hb; clear hb) | (go_at_call 17; with_reducible refine (HS.out _).mono ?_; rintro e w1 ⟨rfl, hb⟩; have HB1 := Lib.hid hb; clear hb) | (go_at_call 17; with_reducible refine (HC1.out _).mono ?_; rintro e w4 ⟨rfl, hb⟩; have HB4 := Lib.hid hb; clear hb) | (go_at_call 17; with_reducible refine (HC2.out _).mono ?_; rintro e w5 ⟨rfl, hb⟩; have HB5 := Lib.hid hb; clear hb) | (go_at_call 31; refine (HAT.out _).mono ?_; rintro e w3 ⟨rfl, hb⟩; have HB3 := Lib.hid hb; clear hb) | (go_at_call 16; refine (HA.out _).mono ?_; rintro e w7 ⟨rfl, hb⟩; have HB7 := Lib.hid hb; clear hb))
      go_ret
      exact ⟨rfl, bchain (bchain (bchain (bchain (bchain (bchain (HB1.out) HB2.out) HB3.out) HB4.out) HB5.out) HB6.out) HB7.out⟩
    · rw [if_neg h120] at hST
      have h120' : ¬ (120 : Int) < (s.size : Int) + t.size := by omega
      have HST := Lib.hid hST
      clear hST
      go_enter Try.func13, Try.ntmps13
      go_wp2_with (first | (go_at_call 17; with_reducible refine (HST.out _).mono ?_; rintro e w6 ⟨rfl, hb⟩; have HB6 := Lib.hid hb; clear hb) | (go_at_call 17; with_reducible refine (HT.out _).mono ?_; rintro e w2 ⟨rfl, hb⟩; have HB2 := Lib.hid hb; clear hb) | (go_at_call 17; with_reducible refine (HS.out _).mono ?_; rintro e w1 ⟨rfl, hb⟩; have HB1 := Lib.hid hb; clear hb) | (go_at_call 17; with_reducible refine (HC1.out _).mono ?_; rintro e w4 ⟨rfl, hb⟩; have HB4 := Lib.hid hb; clear hb) | (go_at_call 17; with_reducible refine (HC2.out _).mono ?_; rintro e w5 ⟨rfl, hb⟩; have HB5 := Lib.hid hb; clear hb) | (go_at_call 31; refine (HAT.out _).mono ?_; rintro e w3 ⟨rfl, hb⟩; have HB3 := Lib.hid hb; clear hb) | (go_at_call 16; refine (HA.out _).mono ?_; rintro e w7 ⟨rfl, hb⟩; have HB7 := Lib.hid hb; clear hb))
      go_ret
      exact ⟨rfl, bchain (bchain (bchain (bchain (bchain (bchain (HB1.out) HB2.out) HB3.out) HB4.out) HB5.out) HB6.out) HB7.out⟩
end Go.Proofs.Ytaaegelefknkeab
