/- The units of a string as pieces; which strings are values, byte by byte. -/
import Derived.Test.YtaaegelefknkeabNuB
import Derived.Test.YtaaegelefknkeabMsI
namespace Go.Proofs.Ytaaegelefknkeab
open Go.Lib (decodeL decodeL_N decodeN)

abbrev lst (s : ByteArray) : List UInt8 := s.data.toList
theorem lst_inj {s t : ByteArray} (h : lst s = lst t) : s = t := by
  have : s.data = t.data := Array.toList_inj.1 h
  cases s; cases t; cases this; rfl
theorem lst_append (s t : ByteArray) : lst (s ++ t) = lst s ++ lst t := by
  show (s ++ t).data.toList = _
  rw [ByteArray.data_append, Array.toList_append]
theorem lst_length (s : ByteArray) : (lst s).length = s.size := rfl
theorem lst_extract (s : ByteArray) (a b : Nat) : lst (s.extract a b) = ((lst s).drop a).take (b - a) := by
  simp [lst, ByteArray.data_extract, Array.toList_extract, List.extract]

/-- The pieces of a string. -/
def pcU (s : ByteArray) (u : U) : P := (u.1, lst (bytesU s u))
def pcs (s : ByteArray) : List P := (unitsOf s).map (pcU s)

theorem us_from (s : ByteArray) : ∀ fuel pos, s.size ≤ pos + fuel → Us ((lst s).drop pos) ((unitsFrom s fuel pos).map (pcU s)) := by
  intro fuel
  induction fuel with
  | zero =>
    intro pos h
    rw [List.drop_eq_nil_of_le (by rw [lst_length]; omega)]
    exact .nil
  | succ f ih =>
    intro pos h
    unfold unitsFrom
    split
    · rename_i hp
      have hd := Lib.decodeL_drop s pos
      have hw := width_pos s pos hp
      have hc := Us.cons (l := (lst s).drop pos) (xs := (unitsFrom s f (pos + (Utf8.decode s pos).2)).map (pcU s))
        (fun e => by have := congrArg List.length e; rw [List.length_drop, lst_length] at this; simp at this; omega)
        (by rw [hd, List.drop_drop]; exact ih _ (by omega))
      rw [hd] at hc
      rw [List.map_cons]
      have e : pcU s ((Utf8.decode s pos).1, pos, (Utf8.decode s pos).2) = ((Utf8.decode s pos).1, ((lst s).drop pos).take (Utf8.decode s pos).2) := by
        unfold pcU bytesU
        rw [lst_extract]
        simp only [Nat.add_sub_cancel_left]
      rw [e]
      exact hc
    · rw [List.drop_eq_nil_of_le (by rw [lst_length]; omega)]
      exact .nil
theorem us_pcs (s : ByteArray) : Us (lst s) (pcs s) := by
  have := us_from s s.size 0 (by omega)
  rw [List.drop_zero] at this
  exact this
theorem pcs_eq {s : ByteArray} {xs : List P} (h : Us (lst s) xs) : pcs s = xs := (us_pcs s).unique h
theorem pcs_len (s : ByteArray) : (pcs s).length = (unitsOf s).length := by simp [pcs]
theorem pcs_from (s : ByteArray) : ∀ x ∈ pcs s, FromP x := (us_pcs s).from
theorem pcs_flat (s : ByteArray) : flat (pcs s) = lst s := (us_pcs s).flat

theorem pcU_len {s : ByteArray} {u : U} (h : u ∈ unitsOf s) : (pcU s u).2.length = u.2.2 := by
  have g := goodU h
  unfold pcU bytesU
  rw [lst_extract]
  simp only [Nat.add_sub_cancel_left]
  rw [List.length_take, List.length_drop, lst_length]
  have := g.fit
  omega
theorem okU_okP {s : ByteArray} {u : U} (h : u ∈ unitsOf s) : okU u = okP (pcU s u) := by
  have hl := pcU_len h
  have hf := (pcs_from s (pcU s u) (List.mem_map_of_mem h)).size
  unfold okU okP
  rw [hl] at *
  show (u.1 != 65533 || u.2.2 == 3) = !(u.1 == 65533 && u.2.2 == 1)
  by_cases e : u.1 = 65533
  · have := hf e
    rcases this with h1 | h1 <;> simp [e, h1]
  · have e1 : (u.1 == 65533) = false := by simpa using e
    have e2 : (u.1 != 65533) = true := by simpa using e
    rw [e1, e2]
    rfl
theorem valid_pcs (s : ByteArray) : validF s = (pcs s).all okP := by
  unfold validF pcs
  rw [List.all_map]
  rw [Bool.eq_iff_iff, List.all_eq_true, List.all_eq_true]
  exact ⟨fun h x hx => by rw [Function.comp, ← okU_okP hx]; exact h x hx, fun h x hx => by rw [okU_okP hx]; exact h x hx⟩
theorem valid_iff {s : ByteArray} : validF s = true ↔ ∀ x ∈ pcs s, okP x = true := by rw [valid_pcs, List.all_eq_true]
theorem good_of_valid {s : ByteArray} (h : validF s = true) : ∀ x ∈ pcs s, GoodP x := fun x hx => (pcs_from s x hx).good (valid_iff.1 h x hx)

theorem pcs_join {a b : ByteArray} (hb : validF b = true) : pcs (a ++ b) = pcs a ++ pcs b := by
  refine pcs_eq ?_
  rw [lst_append]
  exact (us_pcs a).join (okHead (us_pcs b) (valid_iff.1 hb)) (us_pcs b)
theorem join_valid {a b : ByteArray} (ha : validF a = true) (hb : validF b = true) : validF (a ++ b) = true := by
  rw [valid_pcs, pcs_join hb, List.all_append, ← valid_pcs, ← valid_pcs, ha, hb]; rfl
/-- Behind a valid beginning the rest decides. -/
theorem valid_rest {s : ByteArray} {k : Nat} (h : validF (s.extract 0 k) = true) : validF (s.extract k s.size) = validF s := by
  have e : lst s = lst (s.extract 0 k) ++ lst (s.extract k s.size) := by
    rw [lst_extract, lst_extract, List.drop_zero, Nat.sub_zero, List.take_of_length_le (l := (lst s).drop k) (by rw [List.length_drop, lst_length]; omega), List.take_append_drop]
  have hp : pcs s = pcs (s.extract 0 k) ++ pcs (s.extract k s.size) := by
    refine pcs_eq ?_
    rw [e, ← pcs_flat (s.extract 0 k)]
    exact Us.app (good_of_valid h) (us_pcs _)
  rw [valid_pcs s, hp, List.all_append, ← valid_pcs, ← valid_pcs, h]
  rfl
/-- A byte that no value has. -/
def badB (x : UInt8) : Bool := decide (x.toNat < 32) || (x.toNat == 127)
def badP (x : P) : Bool := decide ((x.1 : Int) ≤ 31) || ((x.1 : Int) == 127)
theorem badP_from {x : P} (h : FromP x) : badP x = x.2.any badB := by
  rcases h.shape with ⟨b, hb, rfl⟩ | ⟨h1, _, h2⟩
  · show (decide ((b.toNat : Int) ≤ 31) || ((b.toNat : Int) == 127)) = (badB b || false)
    rw [Bool.or_false]
    unfold badB
    rw [Bool.eq_iff_iff]
    simp only [Bool.or_eq_true, decide_eq_true_eq, beq_iff_eq]
    omega
  · have e1 : x.2.any badB = false := by
      rw [List.any_eq_false]
      intro b hb
      have := h2 b hb
      unfold badB
      simp only [Bool.or_eq_true, decide_eq_true_eq, beq_iff_eq]
      omega
    rw [e1]
    unfold badP
    simp only [Bool.or_eq_false_iff, decide_eq_false_iff_not, beq_eq_false_iff_ne]
    omega
theorem any_flat (xs : List P) (f : UInt8 → Bool) : (flat xs).any f = xs.any fun x => x.2.any f := by
  unfold flat
  rw [List.any_flatMap]
theorem any_bad (s : ByteArray) : (unitsOf s).any badR = (lst s).any badB := by
  rw [← pcs_flat s, any_flat]
  have h1 : (unitsOf s).any badR = (pcs s).any badP := by
    unfold pcs
    rw [List.any_map]
    rfl
  rw [h1, Bool.eq_iff_iff, List.any_eq_true, List.any_eq_true]
  exact ⟨fun ⟨x, hx, hb⟩ => ⟨x, hx, by rw [← badP_from (pcs_from s x hx)]; exact hb⟩, fun ⟨x, hx, hb⟩ => ⟨x, hx, by rw [badP_from (pcs_from s x hx)]; exact hb⟩⟩
/-- The code of a value, byte by byte. -/
theorem vvF_bytes (s : ByteArray) : vvF s = if 120 < s.size then 2 else if validF s = false then 7 else if (lst s).any badB = true then 14 else 0 := by
  unfold vvF
  rw [any_bad]
theorem vvF_zero {s : ByteArray} : vvF s = 0 ↔ s.size ≤ 120 ∧ validF s = true ∧ (lst s).any badB = false := by
  rw [vvF_bytes]
  constructor
  · intro h
    split at h
    · cases h
    split at h
    · cases h
    split at h
    · cases h
    rename_i h1 h2 h3
    exact ⟨by omega, by simpa using h2, by simpa using h3⟩
  · rintro ⟨h1, h2, h3⟩
    rw [if_neg (by omega), if_neg (by rw [h2]; simp), if_neg (by rw [h3]; simp)]
end Go.Proofs.Ytaaegelefknkeab
