/- Positions in terms of pieces. -/
import Derived.Test.YtaaegelefknkeaaLnk
import Derived.Test.YtaaegelefknkeaaCpE
namespace Go.Proofs.Ytaaegelefknkeaa
open Go.Lib (decodeL decodeL_N decodeN)

def posP (at_ : Int) : Nat → List P → Int → Int → Int × Int
  | _, [], l, c => (l, c)
  | off, x :: xs, l, c => if at_ ≤ (off : Int) then (l, c) else if x.1 = 10 then posP at_ (off + x.2.length) xs (l + 1) 1 else posP at_ (off + x.2.length) xs l (c + 1)

theorem posL_P (s : ByteArray) (at_ : Int) : ∀ fuel pos l c, posL at_ (unitsFrom s fuel pos) l c = posP at_ pos ((unitsFrom s fuel pos).map (pcU s)) l c := by
  intro fuel
  induction fuel with
  | zero => intro pos l c; rfl
  | succ f ih =>
    intro pos l c
    unfold unitsFrom
    split
    · rename_i hp
      have hl : (pcU s ((Utf8.decode s pos).1, pos, (Utf8.decode s pos).2)).2.length = (Utf8.decode s pos).2 := by
        unfold pcU bytesU
        rw [lst_extract]
        simp only [Nat.add_sub_cancel_left]
        rw [List.length_take, List.length_drop, lst_length]
        have := decode_fits s pos hp
        omega
      rw [List.map_cons, posL, posP, hl, ih, ih]
      rfl
    · rfl
theorem posF_P (s : ByteArray) (at_ : Int) : posF s at_ = posP at_ 0 (pcs s) 1 1 := posL_P s at_ s.size 0 1 1

theorem posP_stop {at_ : Int} {off : Nat} (h : at_ ≤ (off : Int)) (xs : List P) (l c : Int) : posP at_ off xs l c = (l, c) := by
  cases xs with
  | nil => rfl
  | cons x xs => rw [posP, if_pos h]
theorem posP_shift (k : Nat) (at_ : Int) : ∀ xs off l c, posP (at_ + k) (off + k) xs l c = posP at_ off xs l c := by
  intro xs
  induction xs with
  | nil => intro off l c; rfl
  | cons x xs ih =>
    intro off l c
    rw [posP, posP, show off + k + x.2.length = off + x.2.length + k by omega, ih, ih]
    by_cases h : at_ ≤ (off : Int)
    · rw [if_pos h, if_pos (by omega)]
    · rw [if_neg h, if_neg (by omega)]
theorem posP_line (k : Int) (at_ : Int) : ∀ xs off l c, posP at_ off xs (l + k) c = ((posP at_ off xs l c).1 + k, (posP at_ off xs l c).2) := by
  intro xs
  induction xs with
  | nil => intro off l c; rfl
  | cons x xs ih =>
    intro off l c
    rw [posP, posP]
    split
    · rfl
    · split
      · rw [show l + k + 1 = (l + 1) + k by omega, ih]
      · rw [ih]
/-- How many line feeds. -/
def lf (l : List UInt8) : Nat := (l.filter (fun b => b.toNat == 10)).length
theorem lf_append (a b : List UInt8) : lf (a ++ b) = lf a + lf b := by simp [lf]
theorem lf_piece {x : P} (h : FromP x) : lf x.2 = if x.1 = 10 then 1 else 0 := by
  rcases h.shape with ⟨b, hb, rfl⟩ | ⟨h1, _, h2⟩
  · unfold lf
    by_cases e : b.toNat = 10 <;> simp [e]
  · rw [if_neg (by omega)]
    unfold lf
    rw [List.filter_eq_nil_iff.2 (fun b hb => by have := h2 b hb; simp; omega)]
    rfl
/-- The pieces in front are gone through. -/
theorem posP_front {at_ : Int} : ∀ {xs : List P} {off : Nat} {ys : List P} {l c : Int}, (∀ x ∈ xs, FromP x) → ((off + (flat xs).length : Nat) : Int) < at_ →
    ∃ c', posP at_ off (xs ++ ys) l c = posP at_ (off + (flat xs).length) ys (l + lf (flat xs)) c' := by
  intro xs
  induction xs with
  | nil => intro off ys l c _ _; exact ⟨c, by simp [flat, lf]⟩
  | cons x xs ih =>
    intro off ys l c h hat
    have hx := h x (List.mem_cons_self ..)
    have hl := hx.len
    have hp := lf_piece hx
    rw [flat_cons, List.length_append] at *
    rw [lf_append, hp]
    rw [List.cons_append, posP, if_neg (by omega)]
    by_cases e : x.1 = 10
    · rw [if_pos e, if_pos e]
      obtain ⟨c', hc⟩ := ih (off := off + x.2.length) (ys := ys) (l := l + 1) (c := 1) (fun y hy => h y (List.mem_cons_of_mem _ hy)) (by omega)
      refine ⟨c', ?_⟩
      rw [hc]
      congr 1 <;> omega
    · rw [if_neg e, if_neg e]
      obtain ⟨c', hc⟩ := ih (off := off + x.2.length) (ys := ys) (l := l) (c := c + 1) (fun y hy => h y (List.mem_cons_of_mem _ hy)) (by omega)
      refine ⟨c', ?_⟩
      rw [hc]
      congr 1 <;> omega
/-- The line feed between two strings. -/
theorem pos_joined (s t : ByteArray) (nl : ByteArray) (hn : lst nl = [10]) (at_ : Int) (h0 : 0 ≤ at_) :
    posF (s ++ nl ++ t) (s.size + 1 + at_) = ((posF t at_).1 + ((lf (lst s) : Nat) + 1 : Int), (posF t at_).2) := by
  have hu : Us (lst (s ++ nl ++ t)) (pcs s ++ ((10, [10]) :: pcs t)) := by
    rw [lst_append, lst_append, hn, List.append_assoc]
    have g : GoodP (10, [10]) := ⟨by simp, by rfl, rfl⟩
    have hu2 : Us ([10] ++ lst t) ((10, [10]) :: pcs t) := by
      have := Us.app (xs := [(10, [10])]) (fun x hx => by rw [List.mem_singleton.1 hx]; exact g) (us_pcs t)
      simpa [flat] using this
    exact (us_pcs s).join (by rfl) hu2
  rw [posF_P, pcs_eq hu, posF_P]
  obtain ⟨c', hc⟩ := posP_front (at_ := (s.size : Int) + 1 + at_) (xs := pcs s) (off := 0) (ys := (10, [10]) :: pcs t) (l := 1) (c := 1) (pcs_from s) (by rw [pcs_flat, lst_length]; omega)
  rw [hc, pcs_flat, lst_length, posP, if_neg (by omega), if_pos rfl]
  have e1 : (s.size : Int) + 1 + at_ = at_ + ((s.size + 1 : Nat) : Int) := by omega
  rw [e1, show 0 + s.size + ([10] : List UInt8).length = 0 + (s.size + 1) from by simp, posP_shift]
  rw [show (1 : Int) + (lf (lst s) : Nat) + 1 = 1 + ((lf (lst s) : Nat) + 1 : Int) by omega, posP_line]

/-- The next position. -/
theorem pos_next {a : Nat} : ∀ {xs : List P} {off : Nat} {l c : Int}, (∀ x ∈ xs, FromP x) → off ≤ a → a < off + (flat xs).length →
    ((flat xs)[a - off]? = some 10 → posP ((a : Int) + 1) off xs l c = ((posP (a : Int) off xs l c).1 + 1, 1)) ∧
    ((flat xs)[a - off]? ≠ some 10 → (posP ((a : Int) + 1) off xs l c).1 = (posP (a : Int) off xs l c).1 ∧
      ((posP ((a : Int) + 1) off xs l c).2 = (posP (a : Int) off xs l c).2 ∨ (posP ((a : Int) + 1) off xs l c).2 = (posP (a : Int) off xs l c).2 + 1)) := by
  intro xs
  induction xs with
  | nil => intro off l c _ h1 h2; simp [flat] at h2; omega
  | cons x xs ih =>
    intro off l c h h1 h2
    have hx := h x (List.mem_cons_self ..)
    have hl := hx.len
    rw [flat_cons] at *
    rw [List.length_append] at h2
    by_cases e : a = off
    · subst e
      have p1 : posP ((a : Int) + 1) a (x :: xs) l c = if x.1 = 10 then (l + 1, 1) else (l, c + 1) := by
        rw [posP, if_neg (by omega), posP_stop (by omega), posP_stop (by omega)]
      have p2 : posP (a : Int) a (x :: xs) l c = (l, c) := posP_stop (by omega) _ _ _
      rw [p1, p2, Nat.sub_self]
      rcases hx.shape with ⟨b, hb, rfl⟩ | ⟨g1, g2, g3⟩
      · simp only [List.cons_append, List.getElem?_cons_zero, Option.some.injEq, ne_eq]
        have hb' : b = 10 ↔ b.toNat = 10 := ⟨fun h => by rw [h]; rfl, fun h => UInt8.toNat_inj.1 h⟩
        rw [hb']
        by_cases e : b.toNat = 10
        · simp [e]
        · simp [e]
      · have hnot : (x.2 ++ flat xs)[0]? ≠ some 10 := by
          rw [List.getElem?_append_left (by omega)]
          intro k
          have := g3 10 (List.mem_of_getElem? k)
          exact absurd this (by decide)
        rw [if_neg (by omega)]
        exact ⟨fun k => absurd k hnot, fun _ => ⟨rfl, .inr rfl⟩⟩
    · have p1 : posP ((a : Int) + 1) off (x :: xs) l c = if x.1 = 10 then posP ((a : Int) + 1) (off + x.2.length) xs (l + 1) 1 else posP ((a : Int) + 1) (off + x.2.length) xs l (c + 1) := by
        rw [posP, if_neg (by omega)]
      have p2 : posP (a : Int) off (x :: xs) l c = if x.1 = 10 then posP (a : Int) (off + x.2.length) xs (l + 1) 1 else posP (a : Int) (off + x.2.length) xs l (c + 1) := by
        rw [posP, if_neg (by omega)]
      rw [p1, p2]
      by_cases hin : a < off + x.2.length
      · have hnot : (x.2 ++ flat xs)[a - off]? ≠ some 10 := by
          rw [List.getElem?_append_left (by omega)]
          intro k
          rcases hx.shape with ⟨b, hb, rfl⟩ | ⟨g1, g2, g3⟩
          · simp at hin; omega
          · have := g3 10 (List.mem_of_getElem? k)
            exact absurd this (by decide)
        refine ⟨fun k => absurd k hnot, fun _ => ?_⟩
        rw [posP_stop (by omega), posP_stop (by omega), posP_stop (at_ := (a : Int)) (by omega), posP_stop (at_ := (a : Int)) (by omega)]
        exact ⟨rfl, .inl rfl⟩
      · have hg : (x.2 ++ flat xs)[a - off]? = (flat xs)[a - (off + x.2.length)]? := by
          rw [List.getElem?_append_right (by omega)]
          congr 1
          omega
        rw [hg]
        split
        · exact ih (fun y hy => h y (List.mem_cons_of_mem _ hy)) (by omega) (by omega)
        · exact ih (fun y hy => h y (List.mem_cons_of_mem _ hy)) (by omega) (by omega)
theorem posF_next (t : ByteArray) (a : Nat) (h : a < t.size) :
    ((lst t)[a]? = some 10 → posF t ((a : Int) + 1) = ((posF t a).1 + 1, 1)) ∧
    ((lst t)[a]? ≠ some 10 → (posF t ((a : Int) + 1)).1 = (posF t a).1 ∧ ((posF t ((a : Int) + 1)).2 = (posF t a).2 ∨ (posF t ((a : Int) + 1)).2 = (posF t a).2 + 1)) := by
  rw [posF_P, posF_P]
  have := pos_next (a := a) (xs := pcs t) (off := 0) (l := 1) (c := 1) (pcs_from t) (by omega) (by rw [pcs_flat, lst_length]; omega)
  rw [pcs_flat, Nat.sub_zero] at this
  exact this
end Go.Proofs.Ytaaegelefknkeaa
