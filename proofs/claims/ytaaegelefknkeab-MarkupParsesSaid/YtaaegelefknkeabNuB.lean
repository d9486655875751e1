/- The plain theory of pieces, further: how lists are joined, how pieces are put in place of others. -/
import Derived.Test.YtaaegelefknkeabNuA
namespace Go.Proofs.Ytaaegelefknkeab
open Go.Lib (decodeL decodeL_N decodeN)

/-- What a piece is that a list of bytes has given. -/
structure FromP (x : P) : Prop where
  bad : okP x = false → ∃ b, x = (65533, [b]) ∧ 128 ≤ b.toNat
  good : okP x = true → GoodP x
  shape : (∃ b : UInt8, b.toNat < 128 ∧ x = (b.toNat, [b])) ∨ (128 ≤ x.1 ∧ x.2 ≠ [] ∧ ∀ b ∈ x.2, 128 ≤ b.toNat)
  size : x.1 = 65533 → x.2.length = 1 ∨ x.2.length = 3
  enc : okP x = true → Lib.encodeRune x.1 = x.2
  len : 1 ≤ x.2.length

theorem dec_take {l : List UInt8} (hne : l ≠ []) (hk : okP ((decodeL l).1, l.take (decodeL l).2) = true) : decodeL (l.take (decodeL l).2) = decodeL l := by
  have hl : 0 < l.length := List.length_pos_iff.2 hne
  have hle := Lib.decodeL_le l hne
  have hw := Lib.decodeL_width l
  have hk' := okP_iff.1 hk
  simp only [List.length_take, Nat.min_eq_left hle] at hk'
  rw [decodeL_N (l.take _), List.length_take, Nat.min_eq_left hle, Lib.getD_takeU _ _ 0 (by omega)]
  rw [decodeL_N] at hw hk' ⊢
  rcases Lib.decodeN_shape l.length (l.getD 0 0).toNat (l.getD 1 0).toNat (l.getD 2 0).toNat (l.getD 3 0).toNat with ⟨c, e⟩ | ⟨c1, c2, c3, cv, e⟩ | ⟨c1, c2, c3, c4, cv, cs, e⟩ | ⟨c1, c2, c3, c4, c5, cv, cw, e⟩ | e
  · rw [e, Lib.decodeN_ascii _ _ _ _ _ c]
  · rw [e]
    dsimp only
    rw [Lib.getD_takeU _ _ 1 (by omega)]
    unfold decodeN
    rw [if_neg (by omega), if_pos ⟨c1, by omega, c3⟩, if_pos cv]
  · rw [e]
    dsimp only
    rw [Lib.getD_takeU _ _ 1 (by omega), Lib.getD_takeU _ _ 2 (by omega)]
    unfold decodeN
    rw [if_neg (by omega), if_neg (by omega), if_pos ⟨c1, ⟨by omega, c3⟩, by omega, c4⟩, if_pos ⟨by omega, by omega⟩]
  · rw [e]
    dsimp only
    rw [Lib.getD_takeU _ _ 1 (by omega), Lib.getD_takeU _ _ 2 (by omega), Lib.getD_takeU _ _ 3 (by omega)]
    unfold decodeN
    rw [if_neg (by omega), if_neg (by omega), if_neg (by omega), if_pos ⟨c1, ⟨by omega, c3⟩, ⟨by omega, c4⟩, by omega, c5⟩, if_pos ⟨by omega, by omega⟩]
  · rw [e] at hk'
    exact absurd ⟨rfl, rfl⟩ hk'

theorem fromP {l : List UInt8} (hne : l ≠ []) : FromP ((decodeL l).1, l.take (decodeL l).2) := by
  have hl : 0 < l.length := List.length_pos_iff.2 hne
  have hle := Lib.decodeL_le l hne
  have hw := Lib.decodeL_width l
  have hlen : (l.take (decodeL l).2).length = (decodeL l).2 := by rw [List.length_take, Nat.min_eq_left hle]
  have hsh : (∃ b : UInt8, b.toNat < 128 ∧ ((decodeL l).1, l.take (decodeL l).2) = (b.toNat, [b])) ∨ (128 ≤ (decodeL l).1 ∧ (∀ b ∈ l.take (decodeL l).2, 128 ≤ b.toNat)) := by
    have k0 := (l.getD 0 0).toNat_lt
    rw [decodeL_N] at *
    rcases Lib.decodeN_shape l.length (l.getD 0 0).toNat (l.getD 1 0).toNat (l.getD 2 0).toNat (l.getD 3 0).toNat with ⟨c, e⟩ | ⟨c1, c2, c3, cv, e⟩ | ⟨c1, c2, c3, c4, cv, cs, e⟩ | ⟨c1, c2, c3, c4, c5, cv, cw, e⟩ | e
    · rw [e]
      left
      refine ⟨l.getD 0 0, c, ?_⟩
      dsimp only
      rw [Lib.takeA l hl]
    · rw [e]
      right
      dsimp only
      rw [Lib.takeB l c2]
      refine ⟨cv, fun b hb => ?_⟩
      simp only [List.mem_cons, List.not_mem_nil, or_false] at hb
      rcases hb with rfl | rfl <;> omega
    · rw [e]
      right
      dsimp only
      rw [Lib.takeC l c2]
      refine ⟨by omega, fun b hb => ?_⟩
      simp only [List.mem_cons, List.not_mem_nil, or_false] at hb
      rcases hb with rfl | rfl | rfl <;> omega
    · rw [e]
      right
      dsimp only
      rw [Lib.takeD l c2]
      refine ⟨by omega, fun b hb => ?_⟩
      simp only [List.mem_cons, List.not_mem_nil, or_false] at hb
      rcases hb with rfl | rfl | rfl | rfl <;> omega
    · by_cases h0 : (l.getD 0 0).toNat < 128
      · rw [Lib.decodeN_ascii _ _ _ _ _ h0]
        left
        refine ⟨l.getD 0 0, h0, ?_⟩
        dsimp only
        rw [Lib.takeA l hl]
      · rw [e]
        right
        dsimp only
        rw [Lib.takeA l hl]
        refine ⟨by omega, fun b hb => ?_⟩
        simp only [List.mem_cons, List.not_mem_nil, or_false] at hb
        subst hb
        omega
  refine ⟨fun h => ?_, fun h => ⟨?_, ?_, h⟩, ?_, ?_, fun h => ?_, ?_⟩
  · have h' : (decodeL l).1 = 65533 ∧ (l.take (decodeL l).2).length = 1 := by
      simpa only [okP, Bool.not_eq_false', Bool.and_eq_true, beq_iff_eq] using h
    have h2 : (decodeL l).2 = 1 := by omega
    rcases hsh with ⟨b, hb, e⟩ | ⟨_, hb⟩
    · have := (Prod.mk.inj e).1
      omega
    · rw [h2] at hb ⊢
      rw [h'.1, Lib.takeA l hl] at *
      exact ⟨_, rfl, hb _ (List.mem_cons_self ..)⟩
  · intro e
    have e' : (l.take (decodeL l).2).length = 0 := by rw [show l.take (decodeL l).2 = [] from e]; rfl
    omega
  · rw [show decodeL ((decodeL l).1, l.take (decodeL l).2).2 = decodeL l from dec_take hne h]
    show _ = ((decodeL l).1, (l.take (decodeL l).2).length)
    rw [hlen]
  · rcases hsh with h | h
    · exact .inl h
    · refine .inr ⟨h.1, fun e => ?_, h.2⟩
      have e' : (l.take (decodeL l).2).length = 0 := by rw [show l.take (decodeL l).2 = [] from e]; rfl
      omega
  · intro h
    show (l.take (decodeL l).2).length = 1 ∨ (l.take (decodeL l).2).length = 3
    rw [hlen]
    have h : (decodeL l).1 = 65533 := h
    have k0 := (l.getD 0 0).toNat_lt
    rw [decodeL_N] at h ⊢
    rcases Lib.decodeN_shape l.length (l.getD 0 0).toNat (l.getD 1 0).toNat (l.getD 2 0).toNat (l.getD 3 0).toNat with ⟨c, e⟩ | ⟨c1, c2, c3, cv, e⟩ | ⟨c1, c2, c3, c4, cv, cs, e⟩ | ⟨c1, c2, c3, c4, c5, cv, cw, e⟩ | e
    all_goals (rw [e] at h ⊢; dsimp only at h ⊢; first | omega | exact .inl rfl | exact .inr rfl)
  · have h' := okP_iff.1 h
    exact Lib.encode_decode l hne (fun k => h' ⟨k.1, by rw [show ((decodeL l).1, l.take (decodeL l).2).2 = l.take (decodeL l).2 from rfl, hlen]; exact k.2⟩)
  · show 1 ≤ (l.take (decodeL l).2).length
    omega

theorem Us.from {l : List UInt8} {xs : List P} (h : Us l xs) : ∀ x ∈ xs, FromP x := by
  induction h with
  | nil => intro x hx; cases hx
  | cons hne hu ih =>
    intro x hx
    rcases List.mem_cons.1 hx with rfl | hx
    · exact fromP hne
    · exact ih x hx

/-- A list that begins with no continuation byte may be put behind any other. -/
theorem Us.join {l : List UInt8} {xs : List P} (h : Us l xs) {t : List UInt8} {ys : List P} (ht : t.takeWhile isC = []) (hu : Us t ys) : Us (l ++ t) (xs ++ ys) := by
  induction h with
  | nil => exact hu
  | @cons l xs hne hx ih =>
    obtain ⟨b, r, rfl⟩ : ∃ b r, l = b :: r := by cases l with | nil => exact absurd rfl hne | cons b r => exact ⟨b, r, rfl⟩
    have hd : decodeL ((b :: r) ++ t) = decodeL (b :: r) := by
      refine dl_congr b (r := r ++ t) ?_
      unfold c3
      rw [List.takeWhile_append]
      split
      · rw [ht, List.append_nil]; rename_i hh; rw [List.IsPrefix.eq_of_length (List.takeWhile_prefix _) hh]
      · rfl
    have hle := Lib.decodeL_le (b :: r) hne
    have hc := Us.cons (l := (b :: r) ++ t) (xs := xs ++ ys) (by simp) (by
      rw [hd, List.drop_append_of_le_length hle]
      exact ih)
    rw [hd, List.take_append_of_le_length hle] at hc
    exact hc

theorem flat_cons (x : P) (xs : List P) : flat (x :: xs) = x.2 ++ flat xs := rfl
theorem okHead {t : List UInt8} {ys : List P} (hu : Us t ys) (hy : ∀ y ∈ ys, okP y = true) : t.takeWhile isC = [] := by
  cases ys with
  | nil => cases hu; rfl
  | cons y ys =>
    have hf := hu.flat
    obtain ⟨b, q, e, hb⟩ := ((hu.from y (List.mem_cons_self ..)).good (hy y (List.mem_cons_self ..))).head
    rw [← hf, flat_cons, e]
    simp [hb]

/-- Pieces in place of others: a good one in place of a good one, and the same one in place of a bad one. -/
structure Puts (f : P → P) (x : P) : Prop where
  good : okP x = true → GoodP (f x)
  bad : okP x = false → f x = x

theorem puts_c {f : P → P} {xs : List P} (h : ∀ x ∈ xs, FromP x) (hp : ∀ x ∈ xs, Puts f x) : (flat (xs.map f)).takeWhile isC = (flat xs).takeWhile isC := by
  induction xs with
  | nil => rfl
  | cons x xs ih =>
    have ih' := ih (fun y hy => h y (List.mem_cons_of_mem _ hy)) (fun y hy => hp y (List.mem_cons_of_mem _ hy))
    have hx := h x (List.mem_cons_self ..)
    have px := hp x (List.mem_cons_self ..)
    rw [List.map_cons, flat_cons, flat_cons]
    cases hk : okP x with
    | true =>
      obtain ⟨b, q, e, hb⟩ := (hx.good hk).head
      obtain ⟨b', q', e', hb'⟩ := (px.good hk).head
      rw [e, e']
      simp [hb, hb']
    | false =>
      rw [px.bad hk]
      obtain ⟨b, e, _⟩ := hx.bad hk
      subst e
      simp only [List.cons_append, List.nil_append, List.takeWhile_cons]
      rw [ih']
theorem Us.puts {f : P → P} {l : List UInt8} {xs : List P} (h : Us l xs) (hp : ∀ x ∈ xs, Puts f x) : Us (Go.Proofs.Ytaaegelefknkeab.flat (xs.map f)) (xs.map f) := by
  induction h with
  | nil => exact .nil
  | @cons l xs hne hu ih =>
    have ih' := ih (fun y hy => hp y (List.mem_cons_of_mem _ hy))
    have hx := fromP hne
    have px := hp _ (List.mem_cons_self ..)
    have hfl := hu.flat
    generalize hX : ((decodeL l).1, l.take (decodeL l).2) = x at hx px ⊢
    rw [List.map_cons, flat_cons]
    cases hk : okP x with
    | true =>
      have hg := px.good hk
      have hd := hg.app (Go.Proofs.Ytaaegelefknkeab.flat (xs.map f))
      have hc := Us.cons (l := (f x).2 ++ Go.Proofs.Ytaaegelefknkeab.flat (xs.map f)) (xs := xs.map f) (by obtain ⟨b, q, e, _⟩ := hg.head; rw [e]; simp) (by rw [hd]; simpa using ih')
      rw [hd] at hc
      simpa using hc
    | false =>
      rw [px.bad hk]
      obtain ⟨b, e, hb⟩ := hx.bad hk
      subst e
      have hl : l = b :: Go.Proofs.Ytaaegelefknkeab.flat xs := by
        rw [hfl]
        have e := List.take_append_drop (decodeL l).2 l
        rw [(Prod.mk.inj hX).2] at e
        exact e.symm
      have hd0 : decodeL (b :: Go.Proofs.Ytaaegelefknkeab.flat xs) = (65533, 1) := by
        rw [← hl]
        have h2 : (decodeL l).2 = 1 := by
          have := congrArg List.length (Prod.mk.inj hX).2
          rw [List.length_take, Nat.min_eq_left (Lib.decodeL_le l hne)] at this
          exact this
        exact Prod.ext (Prod.mk.inj hX).1 h2
      have hd : decodeL (b :: Go.Proofs.Ytaaegelefknkeab.flat (xs.map f)) = (65533, 1) := by
        rw [← hd0]
        exact dl_congr b (by unfold c3; rw [puts_c hu.from (fun y hy => hp y (List.mem_cons_of_mem _ hy))])
      have hc := Us.cons (l := b :: Go.Proofs.Ytaaegelefknkeab.flat (xs.map f)) (xs := xs.map f) (by simp) (by rw [hd]; exact ih')
      rw [hd] at hc
      exact hc
end Go.Proofs.Ytaaegelefknkeab
