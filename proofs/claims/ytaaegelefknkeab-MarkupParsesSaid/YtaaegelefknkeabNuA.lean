/- The plain theory of units of byte lists: no program in sight. -/
import Derived.Lib.TrimUEq
import Derived.Lib.MapLaws
namespace Go.Proofs.Ytaaegelefknkeab
open Go.Lib (decodeL decodeL_N decodeN)

/-- A continuation byte. -/
def isC (b : UInt8) : Bool := b.toNat / 64 == 2
/-- The continuation bytes in front, three at most. -/
def c3 (l : List UInt8) : List UInt8 := (l.takeWhile isC).take 3

theorem isC_iff {b : UInt8} : isC b = true ↔ b.toNat / 64 = 2 := by simp [isC]
theorem isC_not {b : UInt8} (h : isC b = false) : ¬ b.toNat / 64 = 2 := by simpa [isC] using h

/-- What is decoded hangs on the first byte and on the continuation bytes behind it alone. -/
theorem dl_c3 (b : UInt8) (rest : List UInt8) : decodeL (b :: rest) = decodeL (b :: c3 rest) := by
  match rest with
  | [] => rfl
  | x :: r1 =>
    cases hx : isC x with
    | false =>
      have : c3 (x :: r1) = [] := by simp [c3, hx]
      rw [this, decodeL_N, decodeL_N]
      have hx' := isC_not hx
      simp [decodeN, hx']
    | true =>
      have hx' := isC_iff.1 hx
      match r1 with
      | [] => simp [c3, hx]
      | y :: r2 =>
        cases hy : isC y with
        | false =>
          have : c3 (x :: y :: r2) = [x] := by simp [c3, hx, hy]
          rw [this, decodeL_N, decodeL_N]
          have hy' := isC_not hy
          simp [decodeN, hx', hy']
        | true =>
          have hy' := isC_iff.1 hy
          match r2 with
          | [] => simp [c3, hx, hy]
          | z :: r3 =>
            cases hz : isC z with
            | false =>
              have : c3 (x :: y :: z :: r3) = [x, y] := by simp [c3, hx, hy, hz]
              rw [this, decodeL_N, decodeL_N]
              have hz' := isC_not hz
              simp [decodeN, hx', hy', hz']
            | true =>
              have hz' := isC_iff.1 hz
              have : c3 (x :: y :: z :: r3) = [x, y, z] := by simp [c3, hx, hy, hz]
              rw [this, decodeL_N, decodeL_N]
              simp [decodeN, hx', hy', hz']
theorem dl_congr (b : UInt8) {r r' : List UInt8} (h : c3 r = c3 r') : decodeL (b :: r) = decodeL (b :: r') := by
  rw [dl_c3 b r, dl_c3 b r', h]

/-- A piece: a code point and its bytes. -/
abbrev P := Nat × List UInt8
/-- The piece is no single bad byte. -/
def okP (x : P) : Bool := !(x.1 == 65533 && x.2.length == 1)

/-- The pieces of a byte list. -/
inductive Us : List UInt8 → List P → Prop
  | nil : Us [] []
  | cons {l : List UInt8} {xs : List P} : l ≠ [] → Us (l.drop (decodeL l).2) xs → Us l (((decodeL l).1, l.take (decodeL l).2) :: xs)

theorem Us.unique {l : List UInt8} {xs ys : List P} (h : Us l xs) : Us l ys → xs = ys := by
  induction h generalizing ys with
  | nil =>
    intro k
    cases k with
    | nil => rfl
    | cons hne _ => exact absurd rfl hne
  | cons hne hu ih =>
    intro k
    cases k with
    | nil => exact absurd rfl hne
    | cons _ hu' => rw [ih hu']
def flat (xs : List P) : List UInt8 := xs.flatMap (·.2)
theorem flat_append (a b : List P) : flat (a ++ b) = flat a ++ flat b := by simp [flat]
theorem Us.flat {l : List UInt8} {xs : List P} (h : Us l xs) : flat xs = l := by
  induction h with
  | nil => rfl
  | cons hne hu ih =>
    show _ ++ Go.Proofs.Ytaaegelefknkeab.flat _ = _
    rw [ih]
    exact List.take_append_drop _ _

/-- A good piece: its bytes are its code point's. -/
structure GoodP (x : P) : Prop where
  ne : x.2 ≠ []
  dec : decodeL x.2 = (x.1, x.2.length)
  ok : okP x = true

theorem okP_iff {x : P} : okP x = true ↔ ¬ (x.1 = 65533 ∧ x.2.length = 1) := by
  simp only [okP, Bool.not_eq_true', Bool.and_eq_false_iff, beq_eq_false_iff_ne, ne_eq]
  exact ⟨fun h k => h.elim (fun h => h k.1) (fun h => h k.2), fun h => by
    by_cases e : x.1 = 65533
    · exact .inr fun k => h ⟨e, k⟩
    · exact .inl e⟩

theorem getD_app (l t : List UInt8) (k : Nat) (h : k < l.length) : (l ++ t).getD k 0 = l.getD k 0 := by
  rw [List.getD_eq_getElem?_getD, List.getD_eq_getElem?_getD, List.getElem?_append_left h]
/-- A good piece is decoded as itself, whatever follows. -/
theorem GoodP.app {x : P} (h : GoodP x) (t : List UInt8) : decodeL (x.2 ++ t) = (x.1, x.2.length) := by
  have hd := h.dec
  have hk := okP_iff.1 h.ok
  have hp : 0 < x.2.length := List.length_pos_iff.2 h.ne
  rw [← hd]
  rw [decodeL_N] at hd
  rw [decodeL_N, decodeL_N, getD_app _ _ 0 hp]
  by_cases h1 : x.2.length = 1
  · by_cases h0 : (x.2.getD 0 0).toNat < 128
    · rw [Lib.decodeN_ascii _ _ _ _ _ h0, Lib.decodeN_ascii _ _ _ _ _ h0]
    · rw [Lib.decodeN_alone _ _ _ _ _ (by omega) (.inl (by omega))] at hd
      exact absurd ⟨(Prod.mk.inj hd).1.symm, h1⟩ hk
  · exact Lib.decodeN_more _ _ _ _ _ _ _ _ _ (by omega) (by simp) (by rw [hd])
      (fun h => by rw [getD_app _ _ _ h]) (fun h => by rw [getD_app _ _ _ h]) (fun h => by rw [getD_app _ _ _ h])

/-- A good piece does not begin with a continuation byte. -/
theorem GoodP.head {x : P} (h : GoodP x) : ∃ b q, x.2 = b :: q ∧ isC b = false := by
  obtain ⟨r, p⟩ := x
  match p, h with
  | [], h => exact absurd rfl h.ne
  | b :: q, h =>
    refine ⟨b, q, rfl, ?_⟩
    cases hb : isC b with
    | false => rfl
    | true =>
      have hb' := isC_iff.1 hb
      have hd := h.dec
      have hk := okP_iff.1 h.ok
      rw [decodeL_N, Lib.decodeN_cont _ _ _ _ _ (by rw [List.getD_cons_zero]; exact hb')] at hd
      exact absurd ⟨(Prod.mk.inj hd).1.symm, (Prod.mk.inj hd).2.symm⟩ hk

/-- The pieces of a list that begins with good pieces. -/
theorem Us.app {xs : List P} (h : ∀ x ∈ xs, GoodP x) {t : List UInt8} {ys : List P} (hu : Us t ys) : Us (Go.Proofs.Ytaaegelefknkeab.flat xs ++ t) (xs ++ ys) := by
  induction xs with
  | nil => exact hu
  | cons x xs ih =>
    have hx := h x (List.mem_cons_self ..)
    have ih' := ih (fun y hy => h y (List.mem_cons_of_mem _ hy))
    have hl : Go.Proofs.Ytaaegelefknkeab.flat (x :: xs) ++ t = x.2 ++ (Go.Proofs.Ytaaegelefknkeab.flat xs ++ t) := by simp [Go.Proofs.Ytaaegelefknkeab.flat]
    rw [hl]
    have hd := hx.app (Go.Proofs.Ytaaegelefknkeab.flat xs ++ t)
    have hc := Us.cons (l := x.2 ++ (Go.Proofs.Ytaaegelefknkeab.flat xs ++ t)) (xs := xs ++ ys) (by obtain ⟨b, q, e, _⟩ := hx.head; rw [e]; simp) (by rw [hd]; simpa using ih')
    rw [hd] at hc
    simpa using hc
theorem Us.good {xs : List P} (h : ∀ x ∈ xs, GoodP x) : Us (Go.Proofs.Ytaaegelefknkeab.flat xs) xs := by
  have := Us.app h Us.nil
  simpa using this
end Go.Proofs.Ytaaegelefknkeab
