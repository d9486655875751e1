/- The units of a string as pieces, and what Fold, Reverse, Valid and Count are in their terms. -/
import Derived.Test.YtaaegelefknkeaaUtg
import Derived.Test.YtaaegelefknkeaaCpK
namespace Go.Proofs.Ytaaegelefknkeaa
open Go.Lib (decodeL decodeL_N decodeN)

abbrev lst (s : ByteArray) : List UInt8 := s.data.toList
theorem lst_inj {s t : ByteArray} (h : lst s = lst t) : s = t := by
  have : s.data = t.data := Array.toList_inj.1 h
  cases s; cases t; cases this; rfl
theorem lst_append (s t : ByteArray) : lst (s ++ t) = lst s ++ lst t := by
  show (s ++ t).data.toList = _
  rw [ByteArray.data_append, Array.toList_append]
theorem lst_length (s : ByteArray) : (lst s).length = s.size := rfl
theorem lst_extract (s : ByteArray) (a b : Nat) : lst (s.extract a b) = ((lst s).drop a).take (b - a) := by
  simp [lst, ByteArray.data_extract, Array.toList_extract, List.extract]

/-- The pieces of a string. -/
def pcU (s : ByteArray) (u : U) : P := (u.1, lst (bytesU s u))
def pcs (s : ByteArray) : List P := (unitsOf s).map (pcU s)

theorem us_from (s : ByteArray) : ∀ fuel pos, s.size ≤ pos + fuel → Us ((lst s).drop pos) ((unitsFrom s fuel pos).map (pcU s)) := by
  intro fuel
  induction fuel with
  | zero =>
    intro pos h
    rw [List.drop_eq_nil_of_le (by rw [lst_length]; omega)]
    exact .nil
  | succ f ih =>
    intro pos h
    unfold unitsFrom
    split
    · rename_i hp
      have hd := Lib.decodeL_drop s pos
      have hw := width_pos s pos hp
      have hc := Us.cons (l := (lst s).drop pos) (xs := (unitsFrom s f (pos + (Utf8.decode s pos).2)).map (pcU s))
        (fun e => by have := congrArg List.length e; rw [List.length_drop, lst_length] at this; simp at this; omega)
        (by rw [hd, List.drop_drop]; exact ih _ (by omega))
      rw [hd] at hc
      rw [List.map_cons]
      have e : pcU s ((Utf8.decode s pos).1, pos, (Utf8.decode s pos).2) = ((Utf8.decode s pos).1, ((lst s).drop pos).take (Utf8.decode s pos).2) := by
        unfold pcU bytesU
        rw [lst_extract]
        simp only [Nat.add_sub_cancel_left]
      rw [e]
      exact hc
    · rw [List.drop_eq_nil_of_le (by rw [lst_length]; omega)]
      exact .nil
theorem us_pcs (s : ByteArray) : Us (lst s) (pcs s) := by
  have := us_from s s.size 0 (by omega)
  rw [List.drop_zero] at this
  exact this
theorem pcs_eq {s : ByteArray} {xs : List P} (h : Us (lst s) xs) : pcs s = xs := (us_pcs s).unique h
theorem pcs_len (s : ByteArray) : (pcs s).length = (unitsOf s).length := by simp [pcs]
theorem pcs_from (s : ByteArray) : ∀ x ∈ pcs s, FromP x := (us_pcs s).from
theorem pcs_flat (s : ByteArray) : flat (pcs s) = lst s := (us_pcs s).flat

theorem pcU_len {s : ByteArray} {u : U} (h : u ∈ unitsOf s) : (pcU s u).2.length = u.2.2 := by
  have g := goodU h
  unfold pcU bytesU
  rw [lst_extract]
  simp only [Nat.add_sub_cancel_left]
  rw [List.length_take, List.length_drop, lst_length]
  have := g.fit
  omega
theorem okU_okP {s : ByteArray} {u : U} (h : u ∈ unitsOf s) : okU u = okP (pcU s u) := by
  have hl := pcU_len h
  have hf := (pcs_from s (pcU s u) (List.mem_map_of_mem h)).size
  unfold okU okP
  rw [hl] at *
  show (u.1 != 65533 || u.2.2 == 3) = !(u.1 == 65533 && u.2.2 == 1)
  by_cases e : u.1 = 65533
  · have := hf e
    rcases this with h1 | h1 <;> simp [e, h1]
  · have e1 : (u.1 == 65533) = false := by simpa using e
    have e2 : (u.1 != 65533) = true := by simpa using e
    rw [e1, e2]
    rfl
theorem valid_pcs (s : ByteArray) : validF s = (pcs s).all okP := by
  unfold validF pcs
  rw [List.all_map]
  rw [Bool.eq_iff_iff, List.all_eq_true, List.all_eq_true]
  exact ⟨fun h x hx => by rw [Function.comp, ← okU_okP hx]; exact h x hx, fun h x hx => by rw [okU_okP hx]; exact h x hx⟩
theorem valid_iff {s : ByteArray} : validF s = true ↔ ∀ x ∈ pcs s, okP x = true := by rw [valid_pcs, List.all_eq_true]
theorem good_of_valid {s : ByteArray} (h : validF s = true) : ∀ x ∈ pcs s, GoodP x := fun x hx => (pcs_from s x hx).good (valid_iff.1 h x hx)

/-! ### Fold -/
def foldP (x : P) : P := if lowerF x.1 = x.1 then x else ((lowerF x.1).toNat, lst (Utf8.encode (lowerF x.1)))

theorem foldU_P (s : ByteArray) (u : U) : lst (foldU s u) = (foldP (pcU s u)).2 := by
  unfold foldU foldP pcU
  dsimp only
  split <;> rfl
theorem foldl_lst (f : U → ByteArray) : ∀ (us : List U) (o : ByteArray), lst (us.foldl (fun o u => o ++ f u) o) = lst o ++ us.flatMap (fun u => lst (f u)) := by
  intro us
  induction us with
  | nil => intro o; simp
  | cons u us ih => intro o; rw [List.foldl_cons, ih, lst_append, List.flatMap_cons, List.append_assoc]
theorem fold_pcs (s : ByteArray) : lst (foldF s) = flat ((pcs s).map foldP) := by
  unfold foldF foldL
  rw [foldl_lst, show lst (ByteArray.mk #[]) = [] from rfl, List.nil_append]
  unfold flat pcs
  rw [List.flatMap_map, List.flatMap_map]
  congr 1
  funext u
  exact foldU_P s u

theorem lowerF_twice (r : Int) : lowerF (lowerF r) = lowerF r := by
  unfold lowerF
  repeat' split
  all_goals omega
theorem lowerF_small {r : Int} (h0 : 0 ≤ r) (h : lowerF r ≠ r) : 0 ≤ lowerF r ∧ lowerF r < 2048 ∧ r < 2048 := by
  unfold lowerF at h ⊢
  repeat' split at h
  all_goals (repeat' split)
  all_goals omega

theorem ofNat_toNat {n : Nat} (h : n < 256) : (UInt8.ofNat n).toNat = n := by
  rw [UInt8.toNat_ofNat']
  omega
set_option maxRecDepth 100000 in
theorem good_small (n : Nat) (h : n < 2048) : GoodP (n, lst (Utf8.encode (n : Int))) := by
  have hv : Utf8.valid (n : Int) = true := by simp [Utf8.valid]; omega
  have he : okP (n, lst (Utf8.encode (n : Int))) = true := okP_iff.2 (fun k => by have := k.1; simp only at this; omega)
  by_cases h0 : n < 128
  · have hb : lst (Utf8.encode (n : Int)) = [UInt8.ofNat n] := by
      unfold Utf8.encode
      rw [if_pos hv]
      dsimp only
      rw [if_pos (by omega), Int.toNat_natCast]
    rw [hb] at he ⊢
    refine ⟨by simp, ?_, he⟩
    rw [decodeL_N, List.getD_cons_zero, Lib.decodeN_ascii _ _ _ _ _ (by rw [ofNat_toNat (by omega)]; exact h0), ofNat_toNat (by omega)]
    rfl
  · have hb : lst (Utf8.encode (n : Int)) = [UInt8.ofNat (0xC0 + n / 64), UInt8.ofNat (0x80 + n % 64)] := by
      unfold Utf8.encode
      rw [if_pos hv]
      dsimp only
      rw [if_neg (by omega), if_pos (by omega), Int.toNat_natCast]
    rw [hb] at he ⊢
    refine ⟨by simp, ?_, he⟩
    rw [decodeL_N, List.getD_cons_zero, List.getD_cons_succ, List.getD_cons_zero, ofNat_toNat (by omega), ofNat_toNat (by omega)]
    generalize hx : (List.getD _ 2 _ : UInt8) = x2
    generalize hy : (List.getD _ 3 _ : UInt8) = x3
    simp only [List.length_cons, List.length_nil]
    unfold decodeN
    rw [if_neg (by omega), if_pos (by omega), if_pos (by omega)]
    exact Prod.ext (by show (192 + n / 64) % 32 * 64 + (128 + n % 64) % 64 = n; omega) rfl
theorem foldP_good {x : P} (h : lowerF x.1 ≠ x.1) : GoodP (foldP x) := by
  unfold foldP
  rw [if_neg h]
  obtain ⟨h1, h2, _⟩ := lowerF_small (by omega) h
  have := good_small (lowerF x.1).toNat (by omega)
  rw [show (((lowerF x.1).toNat : Nat) : Int) = lowerF x.1 by omega] at this
  exact this
theorem foldP_bad {x : P} (h : okP x = false) : lowerF x.1 = x.1 := by
  have h' : x.1 = 65533 ∧ x.2.length = 1 := by
    simpa only [okP, Bool.not_eq_false', Bool.and_eq_true, beq_iff_eq] using h
  rw [h'.1]
  decide
theorem foldP_puts {x : P} (h : FromP x) : Puts foldP x := by
  refine ⟨fun hk => ?_, fun hk => ?_⟩
  · by_cases e : lowerF x.1 = x.1
    · unfold foldP
      rw [if_pos e]
      exact h.good hk
    · exact foldP_good e
  · unfold foldP
    rw [if_pos (foldP_bad hk)]
theorem foldP_twice (x : P) : foldP (foldP x) = foldP x := by
  by_cases e : lowerF x.1 = x.1
  · have : foldP x = x := by unfold foldP; rw [if_pos e]
    rw [this, this]
  · have h1 : (foldP x).1 = (lowerF x.1).toNat := by unfold foldP; rw [if_neg e]
    have h2 := (lowerF_small (by omega) e).1
    have : lowerF (foldP x).1 = (foldP x).1 := by
      rw [h1, show (((lowerF x.1).toNat : Nat) : Int) = lowerF x.1 by omega]
      exact lowerF_twice _
    generalize foldP x = y at this
    unfold foldP
    rw [if_pos this]
theorem foldP_ok {x : P} : okP (foldP x) = okP x := by
  by_cases e : lowerF x.1 = x.1
  · have : foldP x = x := by unfold foldP; rw [if_pos e]
    rw [this]
  · rw [(foldP_good e).ok]
    cases hk : okP x with
    | true => rfl
    | false => exact absurd (foldP_bad hk) e
theorem pcs_fold (s : ByteArray) : pcs (foldF s) = (pcs s).map foldP := by
  refine pcs_eq ?_
  rw [fold_pcs]
  exact (us_pcs s).puts (fun x hx => foldP_puts (pcs_from s x hx))
theorem fold_fold (s : ByteArray) : foldF (foldF s) = foldF s := by
  refine lst_inj ?_
  rw [fold_pcs, pcs_fold, fold_pcs, List.map_map]
  congr 1
  refine List.map_congr_left fun x _ => ?_
  exact foldP_twice x
theorem fold_len (s : ByteArray) : (unitsOf (foldF s)).length = (unitsOf s).length := by
  rw [← pcs_len, ← pcs_len, pcs_fold, List.length_map]
theorem fold_valid (s : ByteArray) : validF (foldF s) = validF s := by
  rw [valid_pcs, valid_pcs, pcs_fold, List.all_map]
  congr 1
  funext x
  exact foldP_ok

/-! ### Reverse -/
theorem rev_pcs (s : ByteArray) : lst (revF s) = flat (pcs s).reverse := by
  unfold revF pcs
  induction unitsOf s with
  | nil => rfl
  | cons u us ih => rw [revL_cons, lst_append, ih, List.map_cons, List.reverse_cons, flat_append]; simp [flat, pcU]

/-! ### Joining -/
theorem pcs_join {a b : ByteArray} (hb : validF b = true) : pcs (a ++ b) = pcs a ++ pcs b := by
  refine pcs_eq ?_
  rw [lst_append]
  exact (us_pcs a).join (okHead (us_pcs b) (valid_iff.1 hb)) (us_pcs b)
theorem join_valid {a b : ByteArray} (ha : validF a = true) (hb : validF b = true) : validF (a ++ b) = true := by
  rw [valid_pcs, pcs_join hb, List.all_append, ← valid_pcs, ← valid_pcs, ha, hb]; rfl
theorem join_len {a b : ByteArray} (hb : validF b = true) : (unitsOf (a ++ b)).length = (unitsOf a).length + (unitsOf b).length := by
  rw [← pcs_len, pcs_join hb, List.length_append, pcs_len, pcs_len]
theorem join_rev {a b : ByteArray} (hb : validF b = true) : revF (a ++ b) = revF b ++ revF a := by
  refine lst_inj ?_
  rw [rev_pcs, pcs_join hb, List.reverse_append, flat_append, lst_append, rev_pcs, rev_pcs]
theorem join_fold {a b : ByteArray} (hb : validF b = true) : foldF (a ++ b) = foldF a ++ foldF b := by
  refine lst_inj ?_
  rw [fold_pcs, pcs_join hb, List.map_append, flat_append, lst_append, fold_pcs, fold_pcs]
theorem rev_rev {a : ByteArray} (ha : validF a = true) : revF (revF a) = a := by
  have h : pcs (revF a) = (pcs a).reverse := by
    refine pcs_eq ?_
    rw [rev_pcs]
    exact Us.good fun x hx => good_of_valid ha x (List.mem_reverse.1 hx)
  refine lst_inj ?_
  rw [rev_pcs, h, List.reverse_reverse, pcs_flat]
theorem rev_size (s : ByteArray) : (revF s).size ≤ 4 * (unitsOf s).length := revL_size s _ (fun _ h => (goodU h).w4)
/-- Behind a valid beginning the rest decides. -/
theorem valid_rest {s : ByteArray} {k : Nat} (h : validF (s.extract 0 k) = true) : validF (s.extract k s.size) = validF s := by
  have e : lst s = lst (s.extract 0 k) ++ lst (s.extract k s.size) := by
    rw [lst_extract, lst_extract, List.drop_zero, Nat.sub_zero, List.take_of_length_le (l := (lst s).drop k) (by rw [List.length_drop, lst_length]; omega), List.take_append_drop]
  have hp : pcs s = pcs (s.extract 0 k) ++ pcs (s.extract k s.size) := by
    refine pcs_eq ?_
    rw [e, ← pcs_flat (s.extract 0 k)]
    exact Us.app (good_of_valid h) (us_pcs _)
  rw [valid_pcs s, hp, List.all_append, ← valid_pcs, ← valid_pcs, h]
  rfl
end Go.Proofs.Ytaaegelefknkeaa
