/- The scanner: what it sees and eats. -/
import Derived.Test.YtaaegelefknkeabMsA
import Derived.WalkLawsBesides
namespace Go.Proofs.Ytaaegelefknkeab
open Go.RowKit Go.Shelf
set_option linter.unusedVariables false
set_option linter.unusedSimpArgs false

theorem bchain {a b c : World} (h1 : Below a.heap.size a b) (h2 : Below b.heap.size b c) : Below a.heap.size a c := h1.trans (h2.mono h1.size)
theorem b0 (w : World) (o : Obj) : Below w.heap.size w (w.alloc o) := (Below.refl _ _).alloc (Nat.le_refl _) _
/-- Block X holds a scanner of s at place a. -/
def SX (W : World) (X : Nat) (s : ByteArray) (a : Nat) : Prop := W.heap[X]? = some (.cells #[.string s, .int .i64 a] 62 (0, 0))
/-- What a reading leaves as it lay: all but block X. -/
structure Sc (X : Nat) (w w' : World) : Prop where
  os : w'.os = w.os
  tape : w'.tape = w.tape
  output : w'.output = w.output
  size : w.heap.size ≤ w'.heap.size
  block : ∀ k, k < w.heap.size → k ≠ X → w'.heap[k]? = w.heap[k]?
theorem Sc.refl (X : Nat) (w : World) : Sc X w w := ⟨rfl, rfl, rfl, Nat.le_refl _, fun _ _ _ => rfl⟩
theorem Sc.trans {X : Nat} {a b c : World} (h : Sc X a b) (k : Sc X b c) : Sc X a c :=
  ⟨k.os.trans h.os, k.tape.trans h.tape, k.output.trans h.output, Nat.le_trans h.size k.size, fun i hi hx => (k.block i (Nat.lt_of_lt_of_le hi h.size) hx).trans (h.block i hi hx)⟩
theorem Sc.of {X : Nat} {a b : World} (h : Below a.heap.size a b) : Sc X a b := ⟨h.os, h.tape, h.output, h.size, fun i hi _ => h.block i hi⟩
theorem Sc.set (X : Nat) (w : World) (o : Nat) (v : Value) : Sc X w (w.setCell ⟨X, o, none⟩ v) :=
  ⟨rfl, rfl, rfl, (KeepsWalks.setCell w _ v).size, fun _ _ hx => Below.heap_setCell _ _ _ _ hx⟩
theorem SX.lt {W : World} {X : Nat} {s : ByteArray} {a : Nat} (h : SX W X s a) : X < W.heap.size := (Array.getElem?_eq_some_iff.1 h).1
theorem SX.below {W W' : World} {X : Nat} {s : ByteArray} {a : Nat} (h : SX W X s a) (hb : Below W.heap.size W W') : SX W' X s a := (hb.block _ h.lt).trans h
theorem SX.c0 {W : World} {X : Nat} {s : ByteArray} {a : Nat} (h : SX W X s a) : W.cell? ⟨X, 0, none⟩ = some (.string s) := by
  rw [cell_of_row _ X 0 _ 62 (0, 0) h]; rfl
theorem SX.c1 {W : World} {X : Nat} {s : ByteArray} {a : Nat} (h : SX W X s a) : W.cell? ⟨X, 1, none⟩ = some (.int .i64 a) := by
  rw [cell_of_row _ X 1 _ 62 (0, 0) h]; rfl
theorem SX.fz {W : World} {X : Nat} {s : ByteArray} {a : Nat} (h : SX W X s a) (o : Nat) : W.frozen? ⟨X, o, none⟩ = false := by simp [World.frozen?, show W.heap[X]? = _ from h]
theorem SX.set {W : World} {X : Nat} {s : ByteArray} {a : Nat} (h : SX W X s a) (b : Nat) : SX (W.setCell ⟨X, 1, none⟩ (.int .i64 b)) X s b := setCell_heap_same h 1 _

/-- The byte at place a is c. -/
def seesF (s : ByteArray) (a : Nat) (c : Int) : Bool := if h : a < s.size then decide (((s[a]'h).toNat : Int) = c) else false

set_option maxHeartbeats 4000000 in
theorem sees_any (X : Nat) (s : ByteArray) (a : Nat) (c : Int) (hs : s.size ≤ 140737488351232) (w : World) (hx : SX w X s a) (ha : a ≤ s.size) :
    Calls Try.prog 53 #[.pointer (some ⟨X, 0, none⟩), .int .u8 c] w fun e w' => e = .returned (.bool (seesF s a c)) ∧ Below w.heap.size w w' := by
  have h0 := hx.c0
  have h1 := hx.c1
  have hl := hx.lt
  have HX := Lib.hid hx
  clear hx
  by_cases h : a < s.size
  · cases hc : (((s[a]'h).toNat : Int) == c)
    all_goals
      have hc' : seesF s a c = (((s[a]'h).toNat : Int) == c) := by unfold seesF; rw [dif_pos h]; rfl
      rw [hc] at hc'
      have HC := Lib.hid hc'
      clear hc'
      go_enter Try.func53, Try.ntmps53
      go_wp2_with fail
      go_quiet (fail)
      go_wp2
      go_ret
      exact ⟨ret_bool (by rw [HC.out]), below_drewN (Below.refl _ _) _⟩
  · have hc' : seesF s a c = false := by unfold seesF; rw [dif_neg h]
    have HC := Lib.hid hc'
    clear hc'
    go_enter Try.func53, Try.ntmps53
    go_wp2_with fail
    go_quiet (fail)
    go_wp2
    go_ret
    exact ⟨ret_bool (by rw [HC.out]), below_drewN (Below.refl _ _) _⟩

/-- The panic with a fault. -/
def faultV (a : Int) (e : Int) : Ending := .panicked [{ v := .iface 59 (.agg #[.int .i64 a, .int .i64 e]), recovered := false }]

set_option maxHeartbeats 4000000 in
theorem eat_any (X : Nat) (s : ByteArray) (a : Nat) (c : Int) (hs : s.size ≤ 140737488351232) (w : World) (hx : SX w X s a) (ha : a ≤ s.size) :
    Calls Try.prog 52 #[.pointer (some ⟨X, 0, none⟩), .int .u8 c] w fun e w' => Sc X w w' ∧
      (if seesF s a c = true then e = .returned (.tuple #[]) ∧ SX w' X s (a + 1) else e = faultV a 3) := by
  have hsee := fun w h => sees_any X s a c hs w h ha
  have HS := Lib.hid hsee
  have HX := Lib.hid hx
  clear hsee hx
  cases hq : seesF s a c with
  | true =>
    rw [hq] at HS
    clear hq
    go_enter Try.func52, Try.ntmps52
    go_wp2_with (go_at_call 53; refine (HS.out _ HX.out).mono ?_; rintro e w1 ⟨rfl, hb⟩; have hx := HX.out.below hb; have h0 := hx.c0; have h1 := hx.c1; have hl := hx.lt; have hf := hx.fz 1; have HX1 := Lib.hid hx; have HB := Lib.hid hb; clear hx hb)
    go_end0
    exact ⟨(Sc.of HB.out).trans (Sc.set X _ 1 _), rfl, HX1.out.set (a + 1)⟩
  | false =>
    rw [hq] at HS
    clear hq
    go_enter Try.func52, Try.ntmps52
    go_wp2_with (go_at_call 53; refine (HS.out _ HX.out).mono ?_; rintro e w1 ⟨rfl, hb⟩; have hx := HX.out.below hb; have h0 := hx.c0; have h1 := hx.c1; have hl := hx.lt; have hf := hx.fz 1; have HX1 := Lib.hid hx; have HB := Lib.hid hb; clear hx hb)
    exact ⟨rfl, Sc.of HB.out, rfl⟩

/-- How far a name that has begun goes. -/
def nameTo (s : ByteArray) : Nat → Nat → Nat
  | 0, a => a
  | f + 1, a => if h : a < s.size then (if onF ((s[a]'h).toNat : Int) = true then nameTo s f (a + 1) else a) else a
theorem nameTo_ge (s : ByteArray) : ∀ f a, a ≤ nameTo s f a := by
  intro f
  induction f with
  | zero => intro a; exact Nat.le_refl _
  | succ f ih =>
    intro a
    unfold nameTo
    repeat' split
    all_goals first | exact Nat.le_refl _ | (have := ih (a + 1); omega)
theorem nameTo_le (s : ByteArray) : ∀ f a, a ≤ s.size → nameTo s f a ≤ s.size := by
  intro f
  induction f with
  | zero => intro a h; exact h
  | succ f ih =>
    intro a h
    unfold nameTo
    repeat' split
    all_goals first | exact h | exact ih (a + 1) (by omega)
theorem nameTo_end (s : ByteArray) (f a : Nat) (h : ¬ a < s.size) : nameTo s f a = a := by
  cases f with
  | zero => rfl
  | succ f => unfold nameTo; rw [dif_neg h]
def atOf (X : Nat) (w : World) : Nat := match w.cell? ⟨X, 1, none⟩ with | some (.int _ n) => n.toNat | _ => 0
theorem SX.inc {W : World} {X : Nat} {s : ByteArray} {a : Nat} (h : SX W X s a) : SX (W.setCell ⟨X, 1, none⟩ (.int .i64 ((a : Int) + 1))) X s (a + 1) := h.set (a + 1)
theorem SX.atOf {W : World} {X : Nat} {s : ByteArray} {a : Nat} (h : SX W X s a) : Go.Proofs.Ytaaegelefknkeab.atOf X W = a := by
  unfold Go.Proofs.Ytaaegelefknkeab.atOf
  rw [h.c1]
  rfl
/-- A name at place a: where it ends, or the fault. -/
def nameF (s : ByteArray) (a : Nat) : Except (Nat × Int) Nat :=
  if h : a < s.size then
    if begF ((s[a]'h).toNat : Int) = true then (if 32 < nameTo s s.size a - a then .error (a, 2) else .ok (nameTo s s.size a)) else .error (a, 3)
  else .error (a, 3)

set_option maxHeartbeats 4000000 in
theorem name_any (X : Nat) (s : ByteArray) (a : Nat) (hs : s.size ≤ 140737488351232) (w : World) (hx : SX w X s a) (ha : a ≤ s.size) :
    Calls Try.prog 54 #[.pointer (some ⟨X, 0, none⟩)] w fun e w' => Sc X w w' ∧
      (match nameF s a with | .ok b => e = .returned (.string (s.extract a b)) ∧ SX w' X s b | .error q => e = faultV q.1 q.2) := by
  have h0 := hx.c0
  have h1 := hx.c1
  have hl := hx.lt
  have HX := Lib.hid hx
  clear hx
  unfold nameF
  by_cases h : a < s.size
  · rw [dif_pos h]
    cases hb : begF ((s[a]'h).toNat : Int) with
    | true =>
      obtain ⟨e0, he0⟩ : ∃ e0, e0 = nameTo s s.size a := ⟨_, rfl⟩
      rw [if_pos rfl, ← he0]
      have hea : a ≤ e0 := by rw [he0]; exact nameTo_ge s _ _
      have hes : e0 ≤ s.size := by rw [he0]; exact nameTo_le s _ _ ha
      have HE := Lib.hid he0
      clear he0
      have HB := Lib.hid (begins_any ((s[a]'h).toNat : Int))
      rw [hb] at HB
      clear hb
      go_enter Try.func54, Try.ntmps54
      go_wp2_with (go_at_call 32; refine (HB.out _).mono ?_; rintro e w1 ⟨rfl, rfl⟩)
      clear h0 h1 hl HB
      go_loopw [28] (fun _ wr => ∃ b f, a ≤ b ∧ b ≤ s.size ∧ s.size ≤ b + f ∧ nameTo s f b = e0 ∧ SX wr X s b ∧ Sc X w wr) (fun _ wr => s.size - atOf X wr)
      case atStart => exact ⟨a, s.size, by omega, by omega, by omega, HE.out.symm, HX.out, Sc.refl _ _⟩
      case round =>
        obtain ⟨b, f, hab, hbs, hf, hn, hx, hsc⟩ := hrel
        have h0 := hx.c0
        have h1 := hx.c1
        have hl := hx.lt
        have hfz := hx.fz 1
        have HXb := Lib.hid hx
        have HSc := Lib.hid hsc
        clear hx hsc
        by_cases hb1 : b < s.size
        · obtain ⟨f, rfl⟩ : ∃ g, f = g + 1 := ⟨f - 1, by omega⟩
          rw [nameTo, dif_pos hb1] at hn
          cases ho : onF ((s[b]'hb1).toNat : Int) with
          | true =>
            rw [ho, if_pos rfl] at hn
            have HO := Lib.hid (goesOn_any ((s[b]'hb1).toNat : Int))
            rw [ho] at HO
            have HN := Lib.hid hn
            clear ho hn
            go_wp2_with fail
            go_quiet ((go_at_call 33; exact Calls.quiet_of_same ((HO.out _).mono fun e w' h => ⟨h.1, h.2.symm⟩)))
            go_wp2
            go_roundw
            case rel => exact ⟨b + 1, f, by omega, by omega, by omega, HN.out, (HXb.out.below (below_drewN (Below.refl _ _) nq)).set (b + 1), (HSc.out.trans (Sc.of (below_drewN (Below.refl _ _) nq))).trans (Sc.set X _ 1 _)⟩
            case measure =>
              rw [HXb.out.atOf, ((HXb.out.below (below_drewN (Below.refl _ _) nq)).inc).atOf]
              omega
          | false =>
            rw [ho, if_neg (by simp)] at hn
            subst hn
            have HO := Lib.hid (goesOn_any ((s[b]'hb1).toNat : Int))
            rw [ho] at HO
            clear ho
            by_cases h32 : 32 < b - a
            · have h32' : (32 : Int) < (b : Int) - a := by omega
              go_wp2_with fail
              go_quiet ((go_at_call 33; exact Calls.quiet_of_same ((HO.out _).mono fun e w' h => ⟨h.1, h.2.symm⟩)))
              go_wp2
              exact ⟨rfl, HSc.out.trans (Sc.of (below_drewN (Below.refl _ _) nq)), rfl⟩
            · have h32' : ¬ (32 : Int) < (b : Int) - a := by omega
              go_wp2_with fail
              go_quiet ((go_at_call 33; exact Calls.quiet_of_same ((HO.out _).mono fun e w' h => ⟨h.1, h.2.symm⟩)))
              go_wp2_with fail
              obtain ⟨W5, hW5⟩ : ∃ W5, wr.drewN nq = W5 := ⟨_, rfl⟩
              have hx5 : SX W5 X s b := by rw [← hW5]; exact HXb.out.below (below_drewN (Below.refl _ _) nq)
              have hs5 : Sc X w W5 := by rw [← hW5]; exact HSc.out.trans (Sc.of (below_drewN (Below.refl _ _) nq))
              rw [hW5]
              have k0 := hx5.c0
              have k1 := hx5.c1
              have kl := hx5.lt
              have HX5 := Lib.hid hx5
              have HS5 := Lib.hid hs5
              clear hW5 hx5 hs5 h0 h1 hl hfz HXb HSc nq
              go_quiet (fail)
              go_wp2
              go_ret
              exact ⟨HS5.out.trans (Sc.of (below_drewN (Below.refl _ _) nq)), rfl, HX5.out.below (below_drewN (Below.refl _ _) nq)⟩
        · obtain rfl : b = s.size := by omega
          rw [nameTo_end s f _ hb1] at hn
          subst hn
          by_cases h32 : 32 < s.size - a
          · have h32' : (32 : Int) < (s.size : Int) - a := by omega
            go_wp2_with fail
            go_quiet (fail)
            go_wp2
            exact ⟨rfl, HSc.out.trans (Sc.of (below_drewN (Below.refl _ _) nq)), rfl⟩
          · have h32' : ¬ (32 : Int) < (s.size : Int) - a := by omega
            go_wp2_with fail
            go_quiet (fail)
            go_wp2_with fail
            obtain ⟨W5, hW5⟩ : ∃ W5, wr.drewN nq = W5 := ⟨_, rfl⟩
            have hx5 : SX W5 X s s.size := by rw [← hW5]; exact HXb.out.below (below_drewN (Below.refl _ _) nq)
            have hs5 : Sc X w W5 := by rw [← hW5]; exact HSc.out.trans (Sc.of (below_drewN (Below.refl _ _) nq))
            rw [hW5]
            have k0 := hx5.c0
            have k1 := hx5.c1
            have kl := hx5.lt
            have HX5 := Lib.hid hx5
            have HS5 := Lib.hid hs5
            clear hW5 hx5 hs5 h0 h1 hl hfz HXb HSc nq
            go_quiet (fail)
            go_wp2
            go_ret
            exact ⟨HS5.out.trans (Sc.of (below_drewN (Below.refl _ _) nq)), rfl, HX5.out.below (below_drewN (Below.refl _ _) nq)⟩
    | false =>
      rw [if_neg (by simp)]
      have HB := Lib.hid (begins_any ((s[a]'h).toNat : Int))
      rw [hb] at HB
      clear hb
      go_enter Try.func54, Try.ntmps54
      go_wp2_with (go_at_call 32; refine (HB.out _).mono ?_; rintro e w1 ⟨rfl, rfl⟩)
      exact ⟨rfl, Sc.refl _ _, rfl⟩
  · rw [dif_neg h]
    obtain rfl : a = s.size := by omega
    go_enter Try.func54, Try.ntmps54
    go_wp2_with fail
    exact ⟨rfl, Sc.refl _ _, rfl⟩
end Go.Proofs.Ytaaegelefknkeab
