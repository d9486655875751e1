/- Numbers in escapes: the plain law. -/
import Derived.Test.YtaaegelefknkeabNtB
namespace Go.Proofs.Ytaaegelefknkeab
open Go.RowKit Go.Shelf
set_option linter.unusedSimpArgs false
set_option linter.unusedVariables false

/-- The decimal digits of k. -/
def decL : Nat → Nat → List UInt8
  | 0, _ => []
  | f + 1, k => if k = 0 then [] else decL f (k / 10) ++ [UInt8.ofNat (48 + k % 10)]
theorem dig_toNat (d : Nat) (h : d < 10) : (UInt8.ofNat (48 + d)).toNat = 48 + d := by
  rw [UInt8.toNat_ofNat']
  exact Nat.mod_eq_of_lt (by omega)
theorem decL_len : ∀ f k, (decL f k).length ≤ f := by
  intro f
  induction f with
  | zero => intro k; exact Nat.le_refl _
  | succ f ih =>
    intro k
    unfold decL
    split
    · exact Nat.zero_le _
    · rw [List.length_append]
      have := ih (k / 10)
      show _ + 1 ≤ _
      omega
theorem decL_pos {f k : Nat} (h : 0 < k) (hf : k < 10 ^ f) : 0 < (decL f k).length := by
  cases f with
  | zero => simp at hf; omega
  | succ f =>
    unfold decL
    rw [if_neg (by omega), List.length_append]
    simp
theorem decL_dig : ∀ f k, ∀ x ∈ decL f k, 48 ≤ x.toNat ∧ x.toNat ≤ 57 := by
  intro f
  induction f with
  | zero => intro k x h; cases h
  | succ f ih =>
    intro k x h
    unfold decL at h
    split at h
    · cases h
    · rw [List.mem_append] at h
      rcases h with h | h
      · exact ih _ x h
      · rw [List.mem_singleton] at h
        subst h
        rw [dig_toNat _ (Nat.mod_lt _ (by decide))]
        have := Nat.mod_lt k (show 0 < 10 by decide)
        omega
theorem decL_head : ∀ f k, 0 < k → k < 10 ^ f → ∃ x r, decL f k = x :: r ∧ x.toNat ≠ 48 := by
  intro f
  induction f with
  | zero => intro k h hf; simp at hf; omega
  | succ f ih =>
    intro k h hf
    unfold decL
    rw [if_neg (by omega)]
    by_cases h10 : k / 10 = 0
    · have hd : decL f (k / 10) = [] := by
        rw [h10]
        cases f with
        | zero => rfl
        | succ f => rw [decL, if_pos rfl]
      rw [hd]
      refine ⟨_, _, rfl, ?_⟩
      rw [dig_toNat _ (Nat.mod_lt _ (by decide))]
      omega
    · obtain ⟨x, r, hx, hne⟩ := ih (k / 10) (by omega) (by rw [Nat.pow_succ] at hf; omega)
      exact ⟨x, r ++ [UInt8.ofNat (48 + k % 10)], by rw [hx]; rfl, hne⟩
/-- The number that digits give, behind the number v. -/
def valL (v : Nat) (l : List UInt8) : Nat := l.foldl (fun v d => 10 * v + (d.toNat - 48)) v
theorem decL_val : ∀ f k, k < 10 ^ f → valL 0 (decL f k) = k := by
  intro f
  induction f with
  | zero => intro k hf; simp at hf; subst hf; rfl
  | succ f ih =>
    intro k hf
    unfold decL
    split
    · rename_i h; subst h; rfl
    · have := ih (k / 10) (by rw [Nat.pow_succ] at hf; omega)
      unfold valL at this ⊢
      rw [List.foldl_append, this]
      show 10 * (k / 10) + ((UInt8.ofNat (48 + k % 10)).toNat - 48) = k
      rw [dig_toNat _ (Nat.mod_lt _ (by decide))]
      omega
theorem ofL_getL (A r : List UInt8) (x : UInt8) (h : A.length < (ofL (A ++ x :: r)).size) : (ofL (A ++ x :: r))[A.length]'h = x := by
  show (A ++ x :: r)[A.length]'(by simp) = x
  simp
/-- The reading of digits: all of them, if there is room before place 9. -/
theorem digF_list : ∀ (Z A r : List UInt8) (f v : Nat), (∀ x ∈ Z, 48 ≤ x.toNat ∧ x.toNat ≤ 57) → Z.length < f → A.length + Z.length ≤ 9 →
    digF (ofL (A ++ (Z ++ 59 :: r))) f v A.length = (valL v Z, A.length + Z.length) := by
  intro Z
  induction Z with
  | nil =>
    intro A r f v _ hf _
    obtain ⟨f, rfl⟩ : ∃ g, f = g + 1 := ⟨f - 1, by omega⟩
    have hlt : A.length < (ofL (A ++ ([] ++ 59 :: r))).size := by rw [ofL_size]; simp
    have hg : (ofL (A ++ ([] ++ 59 :: r)))[A.length]'hlt = 59 := ofL_getL A r 59 hlt
    rw [digF, dif_pos hlt, if_neg (by rw [hg]; intro h; have := h.2.2; revert this; decide)]
    rfl
  | cons z Z ih =>
    intro A r f v hz hf h9
    obtain ⟨f, rfl⟩ : ∃ g, f = g + 1 := ⟨f - 1, by omega⟩
    simp only [List.length_cons] at hf h9
    have hlt : A.length < (ofL (A ++ (z :: Z ++ 59 :: r))).size := by rw [ofL_size]; simp
    have hg : (ofL (A ++ (z :: Z ++ 59 :: r)))[A.length]'hlt = z := ofL_getL A (Z ++ 59 :: r) z hlt
    have hzz := hz z (List.mem_cons_self ..)
    rw [digF, dif_pos hlt, if_pos (by rw [hg]; exact ⟨by omega, hzz⟩), hg]
    have := ih (A ++ [z]) r f (10 * v + (z.toNat - 48)) (fun x hx => hz x (List.mem_cons_of_mem _ hx)) (by omega) (by rw [List.length_append]; simp; omega)
    rw [List.length_append, List.append_assoc] at this
    show digF (ofL (A ++ ([z] ++ (Z ++ 59 :: r)))) f (10 * v + (z.toNat - 48)) (A.length + [z].length) = _
    rw [this]
    simp only [valL, List.foldl_cons, List.length_cons, List.length_nil]
    congr 1
    omega
/-- The reading of too many digits ends at place 9. -/
theorem digF_nine : ∀ (Z A r : List UInt8) (f v : Nat), (∀ x ∈ Z, 48 ≤ x.toNat ∧ x.toNat ≤ 57) → Z.length < f → A.length ≤ 9 → 9 < A.length + Z.length →
    (digF (ofL (A ++ (Z ++ r))) f v A.length).2 = 9 := by
  intro Z
  induction Z with
  | nil => intro A r f v _ _ h h9; simp at h9; omega
  | cons z Z ih =>
    intro A r f v hz hf h h9
    obtain ⟨f, rfl⟩ : ∃ g, f = g + 1 := ⟨f - 1, by omega⟩
    simp only [List.length_cons] at hf h9
    have hlt : A.length < (ofL (A ++ (z :: Z ++ r))).size := by rw [ofL_size]; simp
    have hg : (ofL (A ++ (z :: Z ++ r)))[A.length]'hlt = z := ofL_getL A (Z ++ r) z hlt
    have hzz := hz z (List.mem_cons_self ..)
    by_cases h8 : A.length < 9
    · rw [digF, dif_pos hlt, if_pos (by rw [hg]; exact ⟨h8, hzz⟩), hg]
      have := ih (A ++ [z]) r f (10 * v + (z.toNat - 48)) (fun x hx => hz x (List.mem_cons_of_mem _ hx)) (by omega) (by rw [List.length_append]; simp; omega) (by rw [List.length_append]; simp; omega)
      rw [List.length_append, List.append_assoc] at this
      exact this
    · rw [digF, dif_pos hlt, if_neg (by intro h; exact h8 h.1)]
      show A.length = 9
      omega
theorem escF_num (l : List UInt8) (h : 3 ≤ l.length) : escF (ofL (38 :: 35 :: l)) = numF (ofL (38 :: 35 :: l)) (digF (ofL (38 :: 35 :: l)) (ofL (38 :: 35 :: l)).size 0 2).1 (digF (ofL (38 :: 35 :: l)) (ofL (38 :: 35 :: l)).size 0 2).2 := by
  unfold escF
  rw [show (⟨#[38, 97, 109, 112, 59]⟩ : ByteArray) = ofL [38, 97, 109, 112, 59] from rfl, show (⟨#[38, 108, 116, 59]⟩ : ByteArray) = ofL [38, 108, 116, 59] from rfl,
    show (⟨#[38, 103, 116, 59]⟩ : ByteArray) = ofL [38, 103, 116, 59] from rfl, show (⟨#[38, 113, 117, 111, 116, 59]⟩ : ByteArray) = ofL [38, 113, 117, 111, 116, 59] from rfl,
    show (⟨#[38, 35]⟩ : ByteArray) = ofL [38, 35] from rfl, prefF_ofL, prefF_ofL, prefF_ofL, prefF_ofL, prefF_ofL]
  have e : ∀ (p : List UInt8) (a b : UInt8), a ≠ 35 → (decide ((38 :: a :: p).length ≤ (38 :: 35 :: l).length) && ((38 :: 35 :: l).take (38 :: a :: p).length == 38 :: a :: p)) = false := by
    intro p a b ha
    rw [Bool.and_eq_false_iff]
    right
    simp
    intro h
    exact absurd h.symm ha
  rw [e [109, 112, 59] 97 0 (by decide), e [116, 59] 108 0 (by decide), e [116, 59] 103 0 (by decide), e [117, 111, 116, 59] 113 0 (by decide)]
  simp
/-- What an escape of the digits Z gives. -/
theorem escF_digits (Z : List UInt8) (hz : ∀ x ∈ Z, 48 ≤ x.toNat ∧ x.toNat ≤ 57) (hp : 0 < Z.length) :
    escF (ofL (38 :: 35 :: (Z ++ [59, 98]))) = if 7 < Z.length then (0, 0) else if (Z.head?.map (·.toNat)) = some 48 ∧ 1 < Z.length then (0, 0)
      else if 55296 ≤ valL 0 Z ∧ valL 0 Z ≤ 57343 ∨ 1114111 < valL 0 Z then (0, 0) else ((valL 0 Z : Int), (Z.length : Int) + 3) := by
  rw [escF_num _ (by simp; omega)]
  have hsz : (ofL (38 :: 35 :: (Z ++ [59, 98]))).size = Z.length + 4 := by rw [ofL_size]; simp
  by_cases h7 : 7 < Z.length
  · rw [if_pos h7]
    have hd := digF_nine Z [38, 35] [59, 98] (ofL (38 :: 35 :: (Z ++ [59, 98]))).size 0 hz (by rw [hsz]; omega) (by decide) (by simp; omega)
    rw [show ([38, 35] ++ (Z ++ [59, 98]) : List UInt8) = 38 :: 35 :: (Z ++ [59, 98]) from rfl] at hd
    rw [show ([38, 35] : List UInt8).length = 2 from rfl] at hd
    rw [hd]
    have hlt : 9 < (ofL (38 :: 35 :: (Z ++ [59, 98]))).size := by rw [hsz]; omega
    have hb : ∃ x ∈ Z, (ofL (38 :: 35 :: (Z ++ [59, 98])))[9]'hlt = x := by
      refine ⟨Z[7]'h7, List.getElem_mem _, ?_⟩
      rw [ofL_get]
      show (Z ++ [59, 98])[7]'_ = _
      rw [List.getElem_append_left h7]
    obtain ⟨x, hx, hbx⟩ := hb
    have := hz x hx
    rw [numF, if_neg (by decide), dif_pos hlt, if_pos (by rw [hbx]; omega)]
  · rw [if_neg h7]
    have hd := digF_list Z [38, 35] [98] (ofL (38 :: 35 :: (Z ++ [59, 98]))).size 0 hz (by rw [hsz]; omega) (by simp; omega)
    rw [show ([38, 35] ++ (Z ++ 59 :: [98]) : List UInt8) = 38 :: 35 :: (Z ++ [59, 98]) from rfl] at hd
    rw [show ([38, 35] : List UInt8).length = 2 from rfl] at hd
    rw [hd]
    dsimp only
    have hlt : 2 + Z.length < (ofL (38 :: 35 :: (Z ++ [59, 98]))).size := by rw [hsz]; omega
    have hb : (ofL (38 :: 35 :: (Z ++ [59, 98])))[2 + Z.length]'hlt = 59 := by
      have := ofL_getL ([38, 35] ++ Z) [98] 59 (by rw [ofL_size]; simp)
      simp only [List.length_append, List.append_assoc] at this
      exact this
    have h2 : (∃ h2 : 2 < (ofL (38 :: 35 :: (Z ++ [59, 98]))).size, ((ofL (38 :: 35 :: (Z ++ [59, 98])))[2]'h2).toNat = 48) ↔ (Z.head?.map (·.toNat)) = some 48 := by
      match Z, hp with
      | z :: Z, _ =>
        constructor
        · rintro ⟨h, e⟩; exact congrArg some e
        · intro e; exact ⟨by rw [hsz]; simp, Option.some.inj e⟩
    rw [numF, if_neg (by omega), dif_pos hlt, if_neg (by rw [hb]; decide)]
    by_cases hc : (Z.head?.map (·.toNat)) = some 48 ∧ 1 < Z.length
    · rw [if_pos ⟨h2.2 hc.1, by omega⟩, if_pos hc]
    · rw [if_neg (fun h => hc ⟨h2.1 h.1, by omega⟩), if_neg hc]
      split
      · rfl
      · congr 1
        omega
/-- The digits of n, with zeros in front. -/
def numL (n zeros : Nat) : List UInt8 := List.replicate zeros 48 ++ (if n = 0 then [48] else decL 8 n)
theorem numL_dig (n zeros : Nat) : ∀ x ∈ numL n zeros, 48 ≤ x.toNat ∧ x.toNat ≤ 57 := by
  intro x h
  unfold numL at h
  rw [List.mem_append] at h
  rcases h with h | h
  · rw [List.eq_of_mem_replicate h]; decide
  · split at h
    · rw [List.mem_singleton] at h; subst h; decide
    · exact decL_dig _ _ x h
theorem num_law (n zeros : Nat) (hn : n ≤ 99999999) :
    unF (ofL ([97, 38, 35] ++ numL n zeros ++ [59, 98])) (ofL ([97, 38, 35] ++ numL n zeros ++ [59, 98])).size 0 ⟨#[]⟩ =
      if 0 < zeros ∨ 7 < (numL n zeros).length ∨ (55296 ≤ n ∧ n ≤ 57343) ∨ 1114111 < n then .error 1 else .ok (ofL [97] ++ Utf8.encode (n : Int) ++ ofL [98]) := by
  obtain ⟨Z, hZ⟩ : ∃ Z, Z = numL n zeros := ⟨_, rfl⟩
  rw [← hZ]
  have hdig : ∀ x ∈ Z, 48 ≤ x.toNat ∧ x.toNat ≤ 57 := by rw [hZ]; exact numL_dig n zeros
  have hpos : 0 < Z.length := by
    rw [hZ]; unfold numL; rw [List.length_append]
    split
    · simp
    · have := decL_pos (f := 8) (k := n) (by omega) (by omega); omega
  have hsz : (ofL ([97, 38, 35] ++ Z ++ [59, 98])).size = Z.length + 5 := by rw [ofL_size]; simp
  have hl : ([97, 38, 35] ++ Z ++ [59, 98] : List UInt8) = [97] ++ (38 :: 35 :: (Z ++ [59, 98])) := by simp
  have h0 : 0 < (ofL ([97, 38, 35] ++ Z ++ [59, 98])).size := by rw [hsz]; omega
  have h1 : 1 < (ofL ([97, 38, 35] ++ Z ++ [59, 98])).size := by rw [hsz]; omega
  have hx : (ofL ([97, 38, 35] ++ Z ++ [59, 98])).extract 1 (ofL ([97, 38, 35] ++ Z ++ [59, 98])).size = ofL (38 :: 35 :: (Z ++ [59, 98])) := by
    rw [ofL_extract, hl]; rfl
  have hb0 : ((ofL ([97, 38, 35] ++ Z ++ [59, 98]))[0]'h0) = 97 := rfl
  have hb1 : ((ofL ([97, 38, 35] ++ Z ++ [59, 98]))[1]'h1) = 38 := rfl
  have hesc := escF_digits Z hdig hpos
  have hu : ∀ f, unF (ofL ([97, 38, 35] ++ Z ++ [59, 98])) (f + 2) 0 ⟨#[]⟩ = if (escF (ofL (38 :: 35 :: (Z ++ [59, 98])))).2 = 0 then .error 1 else unF (ofL ([97, 38, 35] ++ Z ++ [59, 98])) f (1 + (escF (ofL (38 :: 35 :: (Z ++ [59, 98])))).2.toNat) (ofL [97] ++ Utf8.encode (escF (ofL (38 :: 35 :: (Z ++ [59, 98])))).1) := by
    intro f
    rw [unF, dif_pos h0, if_pos (by rw [hb0]; decide), unF, dif_pos h1, if_neg (by rw [hb1]; decide), hx, hb0]
    have he : (⟨#[]⟩ ++ ⟨#[97]⟩ : ByteArray) = ofL [97] := rfl
    rw [he]
  rw [hsz, show Z.length + 5 = (Z.length + 3) + 2 by omega, hu, hesc]
  by_cases c7 : 7 < Z.length
  · rw [if_pos c7, if_pos rfl, if_pos (.inr (.inl c7))]
  rw [if_neg c7]
  by_cases cz : 0 < zeros
  · have hh : (Z.head?.map (·.toNat)) = some 48 ∧ 1 < Z.length := by
      obtain ⟨z, rfl⟩ : ∃ z, zeros = z + 1 := ⟨zeros - 1, by omega⟩
      rw [hZ]
      unfold numL
      rw [List.replicate_succ]
      refine ⟨rfl, ?_⟩
      rw [List.length_append]
      simp only [List.length_cons, List.length_replicate]
      have : 0 < (if n = 0 then [48] else decL 8 n : List UInt8).length := by
        split
        · simp
        · exact decL_pos (by omega) (by omega)
      omega
    rw [if_pos hh, if_pos rfl, if_pos (.inl cz)]
  have hz0 : zeros = 0 := by omega
  subst hz0
  have hZ0 : Z = if n = 0 then [48] else decL 8 n := by rw [hZ]; rfl
  have hh : ¬ ((Z.head?.map (·.toNat)) = some 48 ∧ 1 < Z.length) := by
    rintro ⟨e1, e2⟩
    rw [hZ0] at e1 e2
    split at e1
    · rename_i h; rw [if_pos h] at e2; simp at e2
    · obtain ⟨x, r, hx, hne⟩ := decL_head 8 n (by omega) (by omega)
      rw [hx] at e1
      simp at e1
      exact hne e1
  have hval : valL 0 Z = n := by
    rw [hZ0]
    split
    · rename_i h; subst h; rfl
    · exact decL_val 8 n (by omega)
  rw [if_neg hh, hval]
  by_cases cv : 55296 ≤ n ∧ n ≤ 57343 ∨ 1114111 < n
  · rw [if_pos cv, if_pos rfl, if_pos (.inr (.inr cv))]
  · rw [if_neg cv, if_neg (by omega : ¬ (0 < 0 ∨ 7 < Z.length ∨ (55296 ≤ n ∧ n ≤ 57343) ∨ 1114111 < n))]
    dsimp only
    rw [if_neg (by omega)]
    have hk : 1 + ((Z.length : Int) + 3).toNat = Z.length + 4 := by omega
    have hlt : Z.length + 4 < (ofL ([97, 38, 35] ++ Z ++ [59, 98])).size := by rw [hsz]; omega
    have hb : (ofL ([97, 38, 35] ++ Z ++ [59, 98]))[Z.length + 4]'hlt = 98 := by
      have := ofL_getL ([97, 38, 35] ++ Z ++ [59]) [] 98 (by rw [ofL_size]; simp)
      simp only [List.length_append, List.append_assoc] at this ⊢
      rw [ofL_get] at this ⊢
      simp
    rw [hk, unF, dif_pos hlt, if_pos (by rw [hb]; decide), hb, unF_end _ _ _ _ (by rw [hsz]; omega)]
    rfl
end Go.Proofs.Ytaaegelefknkeab
